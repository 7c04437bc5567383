/-
  A rolling.Roller in memory.
-/
import Derived.Test.YtnjhipnfhapngaaRollLaws
import Derived.Test.YtnjhipnfhapngaaCh
import Derived.Test.YtnjhipnfhapngaaPower
namespace Go.Proofs.Ytnjhipnfhapngaa
set_option linter.unusedVariables false
set_option linter.unusedSimpArgs false
set_option linter.unnecessarySimpa false
open Go.RowKit

/-- the cells of a roller -/
def rolA (ring : List Int) (n : Nat) (c nx s p : Int) : Array Value := (ring.map (Value.int .u8) ++ [Value.int .i64 n, .int .i64 c, .int .i64 nx, .int .u64 s, .int .u64 p]).toArray
section
variable {ring : List Int} {n : Nat} {c nx s p : Int}
theorem rolA_ring (h : ring.length = 64) {i : Nat} (hi : i < 64) : (rolA ring n c nx s p)[i]? = some (.int .u8 (ring[i]'(by omega))) := by
  unfold rolA
  rw [List.getElem?_toArray, List.getElem?_append_left (by simpa [h] using hi), List.getElem?_eq_getElem (by simpa [h] using hi), List.getElem_map]
theorem rolA_rest (h : ring.length = 64) (i : Nat) : (rolA ring n c nx s p)[64 + i]? = [Value.int .i64 n, .int .i64 c, .int .i64 nx, .int .u64 s, .int .u64 p][i]? := by
  unfold rolA
  rw [List.getElem?_toArray, List.getElem?_append_right (by simp [h])]
  congr 1
  simp [h]
theorem rolA_setRing (h : ring.length = 64) {i : Nat} (hi : i < 64) (b : Int) : (rolA ring n c nx s p).setIfInBounds i (.int .u8 b) = rolA (ring.set i b) n c nx s p := by
  unfold rolA
  rw [List.setIfInBounds_toArray, List.set_append_left _ _ (by simpa [h] using hi), List.map_set]
theorem rolA_setRest (h : ring.length = 64) (i : Nat) (v : Value) : (rolA ring n c nx s p).setIfInBounds (64 + i) v = (ring.map (Value.int .u8) ++ [Value.int .i64 n, .int .i64 c, .int .i64 nx, .int .u64 s, .int .u64 p].set i v).toArray := by
  unfold rolA
  rw [List.setIfInBounds_toArray, List.set_append_right _ _ (by simp [h])]
  congr 2
  simp [h]
theorem rolA_setC (h : ring.length = 64) (c' : Int) : (rolA ring n c nx s p).setIfInBounds 65 (.int .i64 c') = rolA ring n c' nx s p := rolA_setRest h 1 _
theorem rolA_setN (h : ring.length = 64) (nx' : Int) : (rolA ring n c nx s p).setIfInBounds 66 (.int .i64 nx') = rolA ring n c nx' s p := rolA_setRest h 2 _
theorem rolA_setS (h : ring.length = 64) (s' : Int) : (rolA ring n c nx s p).setIfInBounds 67 (.int .u64 s') = rolA ring n c nx s' p := rolA_setRest h 3 _
end

/-- block g is a roller of size n with the window ws -/
structure Rol (w : World) (g n : Nat) (ws : List Int) : Prop where
  ex : ∃ (ring : List Int) (nx : Nat), Blk w g 140 (rolA ring n ws.length nx (sumZ ws) (powZ (n - 1))) ∧ RingOk ring n nx ws

section
variable {w w' : World} {g n : Nat} {ws : List Int}
theorem Rol.lt (h : Rol w g n ws) : g < w.heap.size := by obtain ⟨_, _, hb, _⟩ := h.ex; exact hb.lt
theorem Rol.ch {S : Nat → Prop} (h : Rol w g n ws) (k : Ch S w w') (hg : ¬ S g) : Rol w' g n ws := by
  obtain ⟨ring, nx, hb, hr⟩ := h.ex
  exact ⟨ring, nx, hb.ch k hg, hr⟩
theorem Rol.of (h : Rol w g n ws) (k : Below w.heap.size w w') : Rol w' g n ws := h.ch (S := NoB) (Ch.of_below k) (fun h => h)
theorem Rol.ne_own {base : Nat} {e : TypeId} {size k : Nat} {v : Value} {xs : List Value} (h : Rol w g n ws) (ho : w.ownsRow base e size v k xs) (he : e ≠ 140) : v.ownBlock ≠ some g := by
  obtain ⟨_, _, hb, _⟩ := h.ex
  exact own_blk_ne ho hb he
theorem Rol.le (h : Rol w g n ws) : ws.length ≤ n ∧ 1 ≤ n ∧ n ≤ 64 := by obtain ⟨_, _, _, hr⟩ := h.ex; exact ⟨hr.le, hr.lo, hr.hi⟩
theorem Rol.elem (h : Rol w g n ws) : ∀ z ∈ ws, 0 ≤ z ∧ z ≤ 255 := by obtain ⟨_, _, _, hr⟩ := h.ex; exact hr.elem
end

end Go.Proofs.Ytnjhipnfhapngaa
