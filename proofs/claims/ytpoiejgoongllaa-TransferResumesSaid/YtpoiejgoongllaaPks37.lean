/-
  Packets without addresses; what a channel does to them (P37.6); packets that own their bytes.
-/
import Derived.Test.YtpoiejgoongllaaIns37
namespace Go.Proofs.Ytpoiejgoongllaa
section
set_option linter.unusedVariables false
set_option linter.unusedSimpArgs false
set_option linter.unnecessarySimpa false
open Go.RowKit

/-- a packet without its address -/
structure PkZ where
  kind : Int
  id : IdZ
  frm : Int
  zs : List Int
def Pk.z (x : Pk) : PkZ := ⟨x.kind, x.id, x.frm, x.p.zs⟩
/-- a fault -/
structure FtZ where
  kind : Int
  at_ : Int
  by_ : Int
def ftC (f : FtZ) : List Value := [.int .i64 f.kind, .int .i64 f.at_, .int .i64 f.by_]
def ftsC (l : List FtZ) : List Value := l.flatMap ftC
theorem ftsC_len (l : List FtZ) : (ftsC l).length = l.length * 3 := by
  induction l with
  | nil => rfl
  | cons x l ih => simp only [ftsC, List.flatMap_cons, List.length_append, List.length_cons] at ih ⊢; rw [ih]; simp [ftC]; omega
theorem ftsC_append (l m : List FtZ) : ftsC (l ++ m) = ftsC l ++ ftsC m := by simp [ftsC]
/-- a byte with bit b turned -/
def flipV (z : Int) (b : Nat) : Int := bits .xor .u8 z ((2 : Int) ^ b % 256)
def flipZ (zs : List Int) (b : Nat) : List Int := zs.set (b / 8) (flipV (zs.getD (b / 8) 0) (b % 8))
theorem flipZ_length (zs : List Int) (b : Nat) : (flipZ zs b).length = zs.length := by unfold flipZ; rw [List.length_set]
def PkZ.flip (x : PkZ) (b : Nat) : PkZ := { x with zs := flipZ x.zs b }
/-- a fault strikes a list of packets: P37.6 -/
def strike (l : List PkZ) (f : FtZ) : List PkZ :=
  if h : 0 ≤ f.at_ ∧ f.at_ < l.length then
    let a := f.at_.toNat
    if f.kind = 1 then l.eraseIdx a
    else if f.kind = 2 then l.take (a + 1) ++ l[a]'(by omega) :: l.drop (a + 1)
    else if f.kind = 3 then
      if h2 : 0 ≤ f.at_ + f.by_ ∧ f.at_ + f.by_ < l.length then (l.set a (l[(f.at_ + f.by_).toNat]'(by omega))).set (f.at_ + f.by_).toNat (l[a]'(by omega)) else l
    else if f.kind = 4 then
      if 0 ≤ f.by_ ∧ f.by_ / 8 < (l[a]'(by omega)).zs.length then l.set a ((l[a]'(by omega)).flip f.by_.toNat) else l
    else l
  else l
def carryZ (l : List PkZ) (fs : List FtZ) : List PkZ := fs.foldl strike l
theorem strike_no {l : List PkZ} {f : FtZ} (h : ¬ (0 ≤ f.at_ ∧ f.at_ < l.length)) : strike l f = l := by unfold strike; rw [dif_neg h]
theorem strike_length (l : List PkZ) (f : FtZ) : (strike l f).length ≤ l.length + 1 := by
  unfold strike
  split
  · rename_i h
    simp only
    split
    · rw [List.length_eraseIdx]; split <;> omega
    · split
      · rw [List.length_append, List.length_cons, List.length_take, List.length_drop]; omega
      · split
        · split
          · simp only [List.length_set]; omega
          · omega
        · split
          · split
            · simp only [List.length_set]; omega
            · omega
          · omega
  · omega
/-- what a fault leaves was there, or is there with a bit turned -/
theorem strike_mem {l : List PkZ} {f : FtZ} {y : PkZ} (h : y ∈ strike l f) : y ∈ l ∨ ∃ x ∈ l, ∃ b : Nat, f.kind = 4 ∧ f.by_ = b ∧ b / 8 < x.zs.length ∧ y = x.flip b := by
  unfold strike at h
  split at h
  · rename_i hat
    simp only at h
    split at h
    · exact .inl (List.mem_of_mem_eraseIdx h)
    · split at h
      · rcases List.mem_append.1 h with h | h
        · exact .inl (List.mem_of_mem_take h)
        · rcases List.mem_cons.1 h with rfl | h
          · exact .inl (List.getElem_mem _)
          · exact .inl (List.mem_of_mem_drop h)
      · split at h
        · split at h
          · exact .inl ((List.set_set_perm (by omega) (by omega)).mem_iff.1 h)
          · exact .inl h
        · split at h
          · rename_i k4
            split at h
            · rename_i hb
              rcases List.mem_or_eq_of_mem_set h with h | rfl
              · exact .inl h
              · exact .inr ⟨_, List.getElem_mem _, f.by_.toNat, k4, by omega, by omega, rfl⟩
            · exact .inl h
          · exact .inl h
  · exact .inl h
theorem strike_len {l : List PkZ} {f : FtZ} {y : PkZ} (h : y ∈ strike l f) : ∃ x ∈ l, y.zs.length = x.zs.length ∧ y.kind = x.kind ∧ y.id = x.id ∧ y.frm = x.frm := by
  rcases strike_mem h with h | ⟨x, hx, b, _, _, _, rfl⟩
  · exact ⟨y, h, rfl, rfl, rfl, rfl⟩
  · exact ⟨x, hx, flipZ_length _ _, rfl, rfl, rfl⟩
theorem carryZ_len {l : List PkZ} {fs : List FtZ} {y : PkZ} (h : y ∈ carryZ l fs) : ∃ x ∈ l, y.zs.length = x.zs.length ∧ y.kind = x.kind ∧ y.id = x.id ∧ y.frm = x.frm := by
  induction fs generalizing l y with
  | nil => exact ⟨y, h, rfl, rfl, rfl, rfl⟩
  | cons f fs ih =>
    obtain ⟨x, hx, e1, e2, e3, e4⟩ := ih (l := strike l f) h
    obtain ⟨x', hx', e5, e6, e7, e8⟩ := strike_len hx
    exact ⟨x', hx', e1.trans e5, e2.trans e6, e3.trans e7, e4.trans e8⟩
theorem carryZ_length (l : List PkZ) (fs : List FtZ) : (carryZ l fs).length ≤ l.length + fs.length := by
  induction fs generalizing l with
  | nil => exact Nat.le_refl _
  | cons f fs ih =>
    have h1 := ih (strike l f)
    have h2 := strike_length l f
    have e : carryZ l (f :: fs) = carryZ (strike l f) fs := rfl
    rw [e, List.length_cons]
    omega
theorem carryZ_snoc (l : List PkZ) (fs : List FtZ) (k : Nat) (h : k < fs.length) : carryZ l (fs.take (k + 1)) = strike (carryZ l (fs.take k)) fs[k] := by
  unfold carryZ; rw [List.take_succ_eq_append_getElem h, List.foldl_append]; rfl

/-- the bytes of each packet lie in a block of its own -/
structure PkOwn (w : World) (base : Nat) (l : List Pk) : Prop where
  own : ∀ x ∈ l, w.ownsRow base 5 1 (.slice x.p.A x.p.zs.length x.p.cap) x.p.zs.length (x.p.zs.map (.int .u8))
  ne : l.Pairwise (fun x y => ∀ k, x.p.v.ownBlock = some k → y.p.v.ownBlock ≠ some k)
section
variable {w w' : World} {base : Nat} {l : List Pk} {S : Nat → Prop}
theorem PkOwn.nil : PkOwn w base [] := ⟨fun x hx => (by cases hx), List.Pairwise.nil⟩
theorem PkOwn.lt (h : PkOwn w base l) {x : Pk} (hx : x ∈ l) : ∀ k, x.p.v.ownBlock = some k → base ≤ k ∧ k < w.heap.size := fun k hk => (h.own x hx).lt k hk
theorem PkOwn.ch (h : PkOwn w base l) (k : Ch S w w') (hS : ∀ x ∈ l, ∀ i, x.p.v.ownBlock = some i → ¬ S i) : PkOwn w' base l :=
  ⟨fun x hx => own_ch (h.own x hx) k (hS x hx), h.ne⟩
theorem PkOwn.of (h : PkOwn w base l) (k : Grew w w') : PkOwn w' base l := h.ch (S := NoB) (Ch.of_below k) (fun _ _ _ _ h => h)
theorem PkOwn.mono {base' : Nat} (h : PkOwn w base l) (hb : base' ≤ base) : PkOwn w base' l := ⟨fun x hx => own_mono (h.own x hx) hb, h.ne⟩
theorem PkOwn.erase (h : PkOwn w base l) (i : Nat) : PkOwn w base (l.eraseIdx i) :=
  ⟨fun x hx => h.own x (List.mem_of_mem_eraseIdx hx), h.ne.sublist (List.eraseIdx_sublist _ _)⟩
/-- a packet with new bytes comes in -/
theorem PkOwn.ins (h : PkOwn w base l) {B : Nat} {x : Pk} (i : Nat) (hB : ∀ y ∈ l, ∀ k, y.p.v.ownBlock = some k → k < B) (hb : base ≤ B) (hx : w.ownsRow B 5 1 (.slice x.p.A x.p.zs.length x.p.cap) x.p.zs.length (x.p.zs.map (.int .u8))) : PkOwn w base (insP l i x) := by
  have hn : ∀ y ∈ l, ∀ k, x.p.v.ownBlock = some k → y.p.v.ownBlock ≠ some k := fun y hy k hk he => by
    have h1 := own_lt hx k hk
    have h2 := hB y hy k he
    omega
  refine ⟨fun y hy => ?_, ?_⟩
  · unfold insP at hy
    rcases List.mem_append.1 hy with hy | hy
    · exact h.own y (List.mem_of_mem_take hy)
    · rcases List.mem_cons.1 hy with rfl | hy
      · exact own_mono hx hb
      · exact h.own y (List.mem_of_mem_drop hy)
  · unfold insP
    have hl : l = l.take i ++ l.drop i := (List.take_append_drop i l).symm
    have h0 := h.ne
    rw [hl] at h0
    rw [List.pairwise_append] at h0 ⊢
    obtain ⟨h1, h2, h3⟩ := h0
    refine ⟨h1, List.pairwise_cons.2 ⟨fun y hy k hk => hn y (List.mem_of_mem_drop hy) k hk, h2⟩, fun a ha b hb k hk => ?_⟩
    rcases List.mem_cons.1 hb with rfl | hb
    · exact fun he => hn a (List.mem_of_mem_take ha) k he hk
    · exact h3 a ha b hb k hk
theorem PkOwn.snoc (h : PkOwn w base l) {B : Nat} {x : Pk} (hB : ∀ y ∈ l, ∀ k, y.p.v.ownBlock = some k → k < B) (hb : base ≤ B) (hx : w.ownsRow B 5 1 (.slice x.p.A x.p.zs.length x.p.cap) x.p.zs.length (x.p.zs.map (.int .u8))) : PkOwn w base (l ++ [x]) := by
  have := h.ins l.length hB hb hx
  unfold insP at this
  rwa [List.take_of_length_le (Nat.le_refl _), List.drop_of_length_le (Nat.le_refl _)] at this
theorem PkOwn.swap (h : PkOwn w base l) {a b : Nat} (ha : a < l.length) (hb : b < l.length) : PkOwn w base ((l.set a l[b]).set b l[a]) := by
  have hp : ((l.set a l[b]).set b l[a]).Perm l := List.set_set_perm ha hb
  exact ⟨fun x hx => h.own x (hp.mem_iff.1 hx), (hp.pairwise_iff (fun {x y} hxy k hk he => hxy k he hk)).2 h.ne⟩
/-- the packet at place a holds other bytes, in the same block -/
theorem PkOwn.set_ (h : PkOwn w base l) {a g : Nat} (ha : a < l.length) {x : Pk} (hA : l[a].p.v.ownBlock = some g) (hx : x.p.v = l[a].p.v) (k : Ch (At g) w w')
    (hn : w'.ownsRow base 5 1 (.slice x.p.A x.p.zs.length x.p.cap) x.p.zs.length (x.p.zs.map (.int .u8))) : PkOwn w' base (l.set a x) := by
  have hne : ∀ i (hi : i < l.length), i ≠ a → l[i].p.v.ownBlock ≠ some g := fun i hi hia => by
    have hp := List.pairwise_iff_getElem.1 h.ne
    rcases Nat.lt_or_gt_of_ne hia with h1 | h1
    · exact fun e => hp i a hi ha h1 g e hA
    · exact hp a i ha hi h1 g hA
  refine ⟨fun y hy => ?_, ?_⟩
  · obtain ⟨i, hi, rfl⟩ := List.getElem_of_mem hy
    rw [List.length_set] at hi
    rw [List.getElem_set]
    split
    · exact hn
    · rename_i hai
      exact own_ch (h.own _ (List.getElem_mem hi)) k (fun j hj e => hne i hi (fun e => hai e.symm) (by have e2 : j = g := e; subst e2; exact hj))
  · rw [List.pairwise_iff_getElem]
    intro i j hi hj hij q
    have hp := List.pairwise_iff_getElem.1 h.ne
    rw [List.length_set] at hi hj
    have e : ∀ m (hm : m < l.length), ((l.set a x)[m]'(by rw [List.length_set]; exact hm)).p.v = l[m].p.v := fun m hm => by
      rw [List.getElem_set]
      split
      · rename_i ham; subst ham; exact hx
      · rfl
    rw [e i hi, e j hj]
    exact hp i j hi hj hij q
end
/-- a slice of packets that a function owns whole -/
structure PksIs (w : World) (base : Nat) (A : Option Addr) (c : Nat) (l : List Pk) : Prop where
  row : w.ownsRow base 55 5 (.slice A l.length c) l.length (pksC l)
  own : PkOwn w base l
theorem PksIs.of {w w' : World} {base c : Nat} {A : Option Addr} {l : List Pk} (h : PksIs w base A c l) (k : Grew w w') : PksIs w' base A c l := ⟨own_below h.row k, h.own.of k⟩
/-- a block of packets is none of bytes -/
theorem PksIs.apart {w : World} {base c : Nat} {A : Option Addr} {l : List Pk} (h : PksIs w base A c l) {x : Pk} (hx : x ∈ l) {k : Nat} (hk : x.p.v.ownBlock = some k) : (Value.slice A l.length c).ownBlock ≠ some k :=
  fun he => own_own_ne (h.own.own x hx) h.row (by decide) k hk he
theorem pksC_set (l : List Pk) (a : Nat) (x : Pk) (h : a < l.length) : pksC (l.set a x) = (pksC l).take (a * 5) ++ pkC x ++ (pksC l).drop (a * 5 + 5) := by
  rw [show a * 5 + 5 = (a + 1) * 5 by omega, pksC_take, pksC_drop, List.set_eq_take_append_cons_drop, if_pos h, pksC_append, show x :: l.drop (a + 1) = [x] ++ l.drop (a + 1) from rfl, pksC_append, pksC_one, List.append_assoc]
/-- several cells are written -/
theorem own_puts {base : Nat} {e : TypeId} {size g n cap : Nat} : ∀ (vs : List Value) (o : Nat) {w : World} {xs : List Value}, w.ownsRow base e size (.slice (some ⟨g, 0, none⟩) n cap) n xs → o + vs.length ≤ xs.length →
    (w.setCells g o vs).ownsRow base e size (.slice (some ⟨g, 0, none⟩) n cap) n (xs.take o ++ vs ++ xs.drop (o + vs.length)) ∧ Ch (At g) w (w.setCells g o vs)
  | [], o, w, xs, h, _ => by
    simp only [World.setCells, List.append_nil, List.length_nil, Nat.add_zero, List.take_append_drop]
    exact ⟨h, Ch.refl _ _⟩
  | v :: r, o, w, xs, h, hl => by
    simp only [List.length_cons] at hl
    obtain ⟨h1, h2⟩ := h.stored o v
    obtain ⟨h3, h4⟩ := own_puts r (o + 1) h1 (by rw [List.length_set]; omega)
    have e := list_seg_step xs o v r (by omega)
    rw [e] at h3
    exact ⟨h3, (Ch.of_grown h2).trans h4⟩
end
end Go.Proofs.Ytpoiejgoongllaa
