/-
  stockyardmake.Joined: the concatenation in new memory.
-/
import Derived.Test.YtnjhipnfhapngaaOwn
namespace Go.Proofs.Ytnjhipnfhapngaa
set_option linter.unusedVariables false
set_option linter.unusedSimpArgs false
set_option linter.unnecessarySimpa false
open Go.RowKit Go.Lib

/-- a byte string that came in: where it lies, its capacity, its bytes -/
structure Part where
  A : Option Addr
  cap : Nat
  zs : List Int
def Part.v (p : Part) : Value := .slice p.A p.zs.length p.cap
def flat (ps : List Part) : List Int := ps.flatMap Part.zs
theorem flat_snoc (ps : List Part) (k : Nat) (h : k < ps.length) : flat (ps.take (k + 1)) = flat (ps.take k) ++ ps[k].zs := by
  unfold flat; rw [List.take_succ_eq_append_getElem h, List.flatMap_append]; simp
theorem flat_le (ps : List Part) (k : Nat) : (flat (ps.take k)).length ≤ (flat ps).length := by
  have h : flat ps = flat (ps.take k) ++ flat (ps.drop k) := by
    unfold flat; rw [← List.flatMap_append, List.take_append_drop]
  rw [h, List.length_append]; omega
/-- the parts lie below block B -/
def Lie (w : World) (B : Nat) (ps : List Part) : Prop := ∀ p ∈ ps, Row w B p.A (p.zs.map (.int .u8))

theorem ones_u8 (zs : List Int) : ∀ u ∈ zs.map (Value.int .u8), u.oneCell' = true := by
  intro u hu
  obtain ⟨z, _, rfl⟩ := List.mem_map.1 hu
  rfl

set_option maxHeartbeats 400000 in
theorem joined_any (L : Option Addr) (lc B : Nat) (ps : List Part) (w : World) (hl : Row w B L (ps.map Part.v)) (hp : Lie w B ps) (hB : B ≤ w.heap.size) (hm : ps.length ≤ 9223372036854775807) (hsum : (flat ps).length ≤ 140737488355328) :
    Calls Try.prog 31 #[.slice L ps.length lc] w fun e w' => ∃ A cap, e = .returned (.slice A (flat ps).length cap) ∧
      w'.ownsRow w.heap.size 5 1 (.slice A (flat ps).length cap) (flat ps).length ((flat ps).map (.int .u8)) ∧ Below w.heap.size w w' := by
  have Hp := Lib.hid hp
  clear hp
  go_enter Try.func31, Try.ntmps31
  go_wp2_with fail
  go_loopw [3, 4] (fun v i wr => (∃ k : Nat, k ≤ ps.length ∧ i = .int .i64 k ∧ ∃ A cap, v = .slice A (flat (ps.take k)).length cap ∧
      wr.ownsRow w.heap.size 5 1 (.slice A (flat (ps.take k)).length cap) (flat (ps.take k)).length ((flat (ps.take k)).map (.int .u8))) ∧ Below w.heap.size w wr) (fun _ i _ => ps.length - (intOf i).toNat)
  case atStart => exact ⟨⟨0, Nat.zero_le _, rfl, none, 0, rfl, World.ownsRow_nil _ _ _ _⟩, Below.refl _ _⟩
  case round =>
    obtain ⟨⟨k, hk, rfl, A, cap, rfl, hown⟩, hb⟩ := hrel
    by_cases hlt : k < ps.length
    · obtain ⟨ad, rfl, hbl, hc⟩ := (hl.below hb hB).at_ (k := k) (by simpa using hlt)
      rw [List.getElem_map] at hc
      have HR := Lib.hid ((Hp.out ps[k] (List.getElem_mem hlt)).below hb hB)
      have HF := Lib.hid (flat_snoc ps k hlt)
      have hS : (flat (ps.take k)).length + ps[k].zs.length ≤ (flat ps).length := by
        have h1 := flat_le ps (k + 1)
        rw [HF.out, List.length_append] at h1
        exact h1
      have hbs := hb.size
      unfold Part.v at hc
      go_wp2_with (at_builtin; refine wpList_append_row rfl (.tmp 11) (.tmp 15) rfl w.heap.size elem_u8 (by rfl) hown B (by rfl) (by simp) HR.out (ones_u8 _) (by unfold maxLen; omega) (by omega) hbs ?_; intro A1 cap1 w1 hown1 hg1 _)
      go_wp2
      go_roundw
      case rel =>
        refine ⟨⟨k + 1, by omega, by go_num, A1, cap1, ?_, ?_⟩, hb.trans (below_grown hg1 hbs (own_lt hown))⟩
        · rw [HF.out, List.length_append]
        · rw [HF.out, List.length_append, List.map_append]
          exact hown1
      case measure => simp [intOf]; omega
    · go_wp2_with fail
      go_ret
      have e : ps.take k = ps := List.take_of_length_le (by omega)
      rw [e] at hown ⊢
      exact ⟨A, cap, rfl, hown, hb⟩

theorem joined_one (L : Option Addr) (lc B : Nat) (A : Option Addr) (cap : Nat) (zs : List Int) (w : World) (hl : Row w B L [.slice A zs.length cap]) (hp : Row w B A (zs.map (.int .u8))) (hB : B ≤ w.heap.size) (hsum : zs.length ≤ 140737488355328) :
    Calls Try.prog 31 #[.slice L 1 lc] w fun e w' => ∃ A' cap', e = .returned (.slice A' zs.length cap') ∧
      w'.ownsRow w.heap.size 5 1 (.slice A' zs.length cap') zs.length (zs.map (.int .u8)) ∧ Below w.heap.size w w' := by
  have e : flat [⟨A, cap, zs⟩] = zs := by simp [flat]
  have h := joined_any L lc B [⟨A, cap, zs⟩] w hl (fun p hp' => by rw [List.mem_singleton] at hp'; subst hp'; exact hp) hB (by simp) (by rw [e]; exact hsum)
  rw [e] at h
  exact h
theorem joined_two (L : Option Addr) (lc B : Nat) (A A2 : Option Addr) (cap cap2 : Nat) (zs zs2 : List Int) (w : World) (hl : Row w B L [.slice A zs.length cap, .slice A2 zs2.length cap2])
    (hp : Row w B A (zs.map (.int .u8))) (hp2 : Row w B A2 (zs2.map (.int .u8))) (hB : B ≤ w.heap.size) (hsum : zs.length + zs2.length ≤ 140737488355328) :
    Calls Try.prog 31 #[.slice L 2 lc] w fun e w' => ∃ A' cap', e = .returned (.slice A' (zs ++ zs2).length cap') ∧
      w'.ownsRow w.heap.size 5 1 (.slice A' (zs ++ zs2).length cap') (zs ++ zs2).length ((zs ++ zs2).map (.int .u8)) ∧ Below w.heap.size w w' := by
  have e : flat [⟨A, cap, zs⟩, ⟨A2, cap2, zs2⟩] = zs ++ zs2 := by simp [flat]
  have h := joined_any L lc B [⟨A, cap, zs⟩, ⟨A2, cap2, zs2⟩] w hl (fun p hp' => by
    rcases List.mem_cons.1 hp' with rfl | hp'
    · exact hp
    · rw [List.mem_singleton] at hp'; subst hp'; exact hp2) hB (by simp) (by rw [e, List.length_append]; exact hsum)
  rw [e] at h
  exact h

/-- an owned row that holds something lies in a block of its own; each of its cells can be written -/
theorem own_some {w : World} {base : Nat} {e : TypeId} {size : Nat} {A : Option Addr} {n cap : Nat} {xs : List Value} (h : w.ownsRow base e size (.slice A n cap) n xs) (hn : 0 < n) :
    ∃ g, A = some ⟨g, 0, none⟩ ∧ base ≤ g ∧ g < w.heap.size := by
  obtain ⟨g, c, hv, hb, hl⟩ := h.form hn
  injection hv with hv
  exact ⟨g, hv, hb, hl⟩
theorem row_lit1 {w : World} {B g : Nat} {t : TypeId} {a : Value} (h : w.heap[g]? = some (.cells #[a] t (0, 0))) (hg : g < B) : Row w B (some ⟨g, 0, none⟩) [a] :=
  .inr ⟨_, rfl, hg, fun j hj => by
    have : j = 0 := by simpa using hj
    subst this
    exact cell_of_row w g 0 _ t (0, 0) h⟩
theorem row_new1 {w : World} {t : TypeId} {a : Value} : Row (w.alloc (.cells #[a] t)) (w.heap.size + 1) (some ⟨w.heap.size, 0, none⟩) [a] := row_lit1 (heap_alloc_new w _) (Nat.lt_succ_self _)
theorem row_new {w : World} {t : TypeId} {cs : Array Value} {B : Nat} (hB : w.heap.size < B) : Row (w.alloc (.cells cs t)) B (some ⟨w.heap.size, 0, none⟩) cs.toList :=
  .inr ⟨_, rfl, hB, fun j hj => by
    have h := cell_of_row (w.alloc (.cells cs t)) w.heap.size j cs t (0, 0) (heap_alloc_new w _)
    unfold Addr.add
    by_cases h0 : j = 0
    · subst h0; rw [if_pos rfl]; simpa using h
    · rw [if_neg h0]; simpa using h⟩

end Go.Proofs.Ytnjhipnfhapngaa
