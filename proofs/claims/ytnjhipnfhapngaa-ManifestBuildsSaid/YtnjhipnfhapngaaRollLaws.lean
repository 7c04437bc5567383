/-
  The rolling window as plain lists: what a push does to the window, to its fingerprint, and to the ring in which the window's bytes stand.
-/
import Derived.Test.YtnjhipnfhapngaaRing
namespace Go.Proofs.Ytnjhipnfhapngaa
set_option linter.unusedVariables false
set_option linter.unusedSimpArgs false
set_option linter.unnecessarySimpa false

/-- the window of at most n bytes behind a push -/
def pushW (n : Nat) (ws : List Int) (b : Int) : List Int := if ws.length < n then ws ++ [b] else (ws ++ [b]).drop 1
theorem pushW_lt {n : Nat} {ws : List Int} {b : Int} (h : ws.length < n) : pushW n ws b = ws ++ [b] := if_pos h
theorem pushW_ge {n : Nat} {ws : List Int} {b : Int} (h : n ≤ ws.length) : pushW n ws b = (ws ++ [b]).drop 1 := if_neg (by omega)
theorem pushW_len_lt {n : Nat} {ws : List Int} {b : Int} (h : ws.length < n) : (pushW n ws b).length = ws.length + 1 := by rw [pushW_lt h]; simp
theorem pushW_len_ge {n : Nat} {ws : List Int} {b : Int} (h : n ≤ ws.length) : (pushW n ws b).length = ws.length := by rw [pushW_ge h]; simp
theorem pushW_le {n : Nat} {ws : List Int} {b : Int} (h : ws.length ≤ n) (h1 : 1 ≤ n) : (pushW n ws b).length ≤ n := by
  rcases Nat.lt_or_ge ws.length n with h2 | h2
  · rw [pushW_len_lt h2]; omega
  · rw [pushW_len_ge h2]; omega

/-- the last n elements -/
def lastN (n : Nat) (zs : List Int) : List Int := zs.drop (zs.length - n)
theorem lastN_nil (n : Nat) : lastN n [] = [] := by simp [lastN]
theorem lastN_len (n : Nat) (zs : List Int) : (lastN n zs).length = min n zs.length := by simp [lastN]; omega
theorem lastN_le (n : Nat) (zs : List Int) : (lastN n zs).length ≤ n := by rw [lastN_len]; omega
theorem lastN_all {n : Nat} {zs : List Int} (h : zs.length ≤ n) : lastN n zs = zs := by unfold lastN; rw [Nat.sub_eq_zero_of_le h, List.drop_zero]
theorem lastN_push (n : Nat) (zs : List Int) (b : Int) : pushW n (lastN n zs) b = lastN n (zs ++ [b]) := by
  rcases Nat.lt_or_ge zs.length n with h | h
  · rw [lastN_all (by omega), pushW_lt h, lastN_all (by simp; omega)]
  · rw [pushW_ge (by rw [lastN_len]; omega)]
    unfold lastN
    rw [List.length_append, List.length_singleton, ← List.drop_append_of_le_length (by omega), List.drop_drop]
    congr 1
    omega
theorem foldl_push (n : Nat) (xs zs : List Int) : xs.foldl (pushW n) (lastN n zs) = lastN n (zs ++ xs) := by
  induction xs generalizing zs with
  | nil => simp
  | cons x xs ih => rw [List.foldl_cons, lastN_push, ih, List.append_assoc]; rfl
theorem lastN_take_push (n : Nat) (zs : List Int) (k : Nat) (h : k < zs.length) : pushW n (lastN n (zs.take k)) zs[k] = lastN n (zs.take (k + 1)) := by
  rw [lastN_push, List.take_succ_eq_append_getElem h]
theorem lastN_append {n : Nat} {xs ys : List Int} (h : n ≤ ys.length) : lastN n (xs ++ ys) = lastN n ys := by
  unfold lastN
  rw [List.length_append, List.drop_append, List.drop_eq_nil_of_le (by omega), List.nil_append]
  congr 1; omega
/-- pushing at least n bytes makes the window of them alone, whatever it was -/
theorem foldl_push_all {n : Nat} {xs ws : List Int} (hw : ws.length ≤ n) (h : n ≤ xs.length) : xs.foldl (pushW n) ws = lastN n xs := by
  have h1 := foldl_push n xs ws
  rw [lastN_all hw] at h1
  rw [h1, lastN_append h]

/-- the fingerprint of one byte; of a byte ahead of others -/
theorem sumZ_one {z : Int} (h0 : 0 ≤ z) (h1 : z ≤ 255) : sumZ [z] = z + 1 := by
  show stepZ 0 z = z + 1
  rw [stepZ_eq, zero_fmul]; unfold fadd; omega
theorem sumZ_cons {z : Int} (ws : List Int) (h0 : 0 ≤ z) (h1 : z ≤ 255) : sumZ (z :: ws) = fadd (fmul (z + 1) (powZ ws.length)) (sumZ ws) := by
  rw [show z :: ws = [z] ++ ws from rfl, sumZ_append, sumZ_one h0 h1]
/-- .. without its oldest byte -/
theorem sumZ_drop {z : Int} (ws : List Int) (h0 : 0 ≤ z) (h1 : z ≤ 255) : fsub (sumZ (z :: ws)) (fmul (z + 1) (powZ ws.length)) = sumZ ws := by
  rw [sumZ_cons ws h0 h1, fsub_fadd (sumZ_fp ws)]

/-- i + 1, 0 at n -/
theorem mod_next {i n : Nat} (h : i < n) : (i + 1) % n = if i + 1 = n then 0 else i + 1 := by
  split
  · rename_i e; rw [e, Nat.mod_self]
  · exact Nat.mod_eq_of_lt (by omega)
/-- the place of the window's byte j: nx is the next one's, c bytes are in it -/
def ringAt (n nx c j : Nat) : Nat := if nx + j < c then nx + n + j - c else if nx + j - c < n then nx + j - c else nx + j - c - n
/-- the ring holds the window ws of at most n bytes; nx is the next byte's place -/
structure RingOk (ring : List Int) (n nx : Nat) (ws : List Int) : Prop where
  len : ring.length = 64
  lo : 1 ≤ n
  hi : n ≤ 64
  next : nx < n
  le : ws.length ≤ n
  part : ws.length < n → nx = ws.length
  at_ : ∀ j, j < ws.length → ring[if ws.length < n then j else if nx + j < n then nx + j else nx + j - n]? = ws[j]?
  byte : ∀ z ∈ ring, 0 ≤ z ∧ z ≤ 255

theorem RingOk.empty {ring : List Int} {n : Nat} (h1 : ring.length = 64) (h2 : 1 ≤ n) (h3 : n ≤ 64) (hb : ∀ z ∈ ring, 0 ≤ z ∧ z ≤ 255) : RingOk ring n 0 [] :=
  ⟨h1, h2, h3, by omega, by simp, fun _ => rfl, fun j hj => by simp at hj, hb⟩
theorem RingOk.elem {ring : List Int} {n nx : Nat} {ws : List Int} (h : RingOk ring n nx ws) : ∀ z ∈ ws, 0 ≤ z ∧ z ≤ 255 := by
  intro z hz
  obtain ⟨j, hj, rfl⟩ := List.getElem_of_mem hz
  have h1 := h.at_ j hj
  rw [List.getElem?_eq_getElem hj] at h1
  exact h.byte _ (List.mem_of_getElem? h1)
theorem mem_set_byte {ring : List Int} {i : Nat} {b : Int} (h : ∀ z ∈ ring, 0 ≤ z ∧ z ≤ 255) (h0 : 0 ≤ b) (h1 : b ≤ 255) : ∀ z ∈ ring.set i b, 0 ≤ z ∧ z ≤ 255 := by
  intro z hz
  rcases List.mem_or_eq_of_mem_set hz with h2 | h2
  · exact h z h2
  · omega
theorem RingOk.push_lt {ring : List Int} {n nx : Nat} {ws : List Int} {b : Int} (h : RingOk ring n nx ws) (hl : ws.length < n) (h0 : 0 ≤ b) (h1 : b ≤ 255) :
    RingOk (ring.set nx b) n ((nx + 1) % n) (pushW n ws b) := by
  have hp := h.part hl
  have h64 := h.len
  have hhi := h.hi
  refine ⟨by simpa using h.len, h.lo, h.hi, Nat.mod_lt _ (by omega), pushW_le h.le h.lo, fun hh => ?_, fun j hj => ?_, mem_set_byte h.byte h0 h1⟩
  · rw [pushW_len_lt hl] at hh ⊢
    rw [hp, Nat.mod_eq_of_lt hh]
  · rw [pushW_len_lt hl] at hj ⊢
    rw [pushW_lt hl]
    have hidx : (if ws.length + 1 < n then j else if (nx + 1) % n + j < n then (nx + 1) % n + j else (nx + 1) % n + j - n) = j := by
      rw [mod_next (by omega)]
      repeat' split
      all_goals omega
    rw [hidx]
    by_cases e : j = ws.length
    · subst e
      rw [List.getElem?_append_right (Nat.le_refl _), Nat.sub_self, hp, List.getElem?_set_self (by omega)]
      rfl
    · have hj' : j < ws.length := by omega
      rw [List.getElem?_append_left hj', List.getElem?_set_ne (by omega)]
      have := h.at_ j hj'
      rwa [if_pos hl] at this
theorem RingOk.push_ge {ring : List Int} {n nx : Nat} {ws : List Int} {b : Int} (h : RingOk ring n nx ws) (hl : ws.length = n) (h0 : 0 ≤ b) (h1 : b ≤ 255) :
    RingOk (ring.set nx b) n ((nx + 1) % n) (pushW n ws b) := by
  have h64 := h.len
  have hhi := h.hi
  have hnx := h.next
  refine ⟨by simpa using h.len, h.lo, h.hi, Nat.mod_lt _ (by omega), pushW_le h.le h.lo, fun hh => ?_, fun j hj => ?_, mem_set_byte h.byte h0 h1⟩
  · rw [pushW_len_ge (by omega)] at hh; omega
  · rw [pushW_len_ge (by omega)] at hj ⊢
    rw [pushW_ge (by omega), if_neg (by omega), List.getElem?_drop]
    by_cases e : j + 1 = n
    · have hidx : (if (nx + 1) % n + j < n then (nx + 1) % n + j else (nx + 1) % n + j - n) = nx := by
        rw [mod_next (by omega)]
        repeat' split
        all_goals omega
      rw [hidx, List.getElem?_set_self (by omega), List.getElem?_append_right (by omega), show 1 + j - ws.length = 0 by omega]
      rfl
    · have hidx : (if (nx + 1) % n + j < n then (nx + 1) % n + j else (nx + 1) % n + j - n) = if nx + (j + 1) < n then nx + (j + 1) else nx + (j + 1) - n := by
        rw [mod_next (by omega)]
        repeat' split
        all_goals omega
      rw [hidx]
      have := h.at_ (j + 1) (by omega)
      rw [if_neg (by omega)] at this
      rw [List.getElem?_append_left (by omega), Nat.add_comm 1 j, ← this, List.getElem?_set_ne (by split <;> omega)]
theorem RingOk.oldest {ring : List Int} {n nx : Nat} {ws : List Int} (h : RingOk ring n nx ws) (hl : ws.length = n) : ring[nx]? = ws[0]? := by
  have h1 := h.lo
  have h2 := h.next
  have := h.at_ 0 (by omega)
  rwa [if_neg (by omega), if_pos (by omega), Nat.add_zero] at this

end Go.Proofs.Ytnjhipnfhapngaa
