/-
  stockyardref37.SamePackets of equal lists.
-/
import Derived.Test.YtpoiejgoongllaaRefCar37
import Derived.Test.YtpoiejgoongllaaStart37
namespace Go.Proofs.Ytpoiejgoongllaa
set_option linter.unusedVariables false
set_option linter.unusedSimpArgs false
set_option linter.unnecessarySimpa false
open Go.RowKit
attribute [local go_sem ↓] Go.wp_at_zero Go.wp_at_succ

/-- the bytes of packets lie somewhere -/
def PksRow (w : World) (l : List Pk) : Prop := ∀ x ∈ l, Row w w.heap.size x.p.A (x.p.zs.map (.int .u8))
theorem PksRow.up {w w' : World} {l : List Pk} (h : PksRow w l) (k : Grew w w') : PksRow w' l := fun x hx => ((h x hx).up k (Nat.le_refl _)).more k.size
theorem PksIn.rows {w : World} {l : List Pk} (h : PksIn w l) : PksRow w l := fun x hx => (h x hx).1
theorem PksIs.rows {w : World} {base c : Nat} {A : Option Addr} {l : List Pk} (h : PksIs w base A c l) : PksRow w l := fun x hx => own_row (h.own.own x hx)
theorem PksR.rows {w : World} {base c : Nat} {A : Option Addr} {l : List Pk} (h : PksR w base A c l) (hb : base ≤ w.heap.size) : PksRow w l := fun x hx => (h.bt x hx).row hb

set_option maxRecDepth 100000 in
set_option maxHeartbeats 2000000 in
theorem same37_any (A A2 : Option Addr) (cap cap2 : Nat) (l m : List Pk) (w : World) (hr : Row w w.heap.size A (pksC l)) (hs : Row w w.heap.size A2 (pksC m)) (hp : PksRow w l) (hq : PksRow w m) (hm : l.length ≤ 9223372036854775807) (he : l.map Pk.z = m.map Pk.z) :
    Calls Try.prog 35 #[.slice A l.length cap, .slice A2 m.length cap2] w fun e w' => e = .returned (.bool true) ∧ Grew w w' := by
  have hl : l.length = m.length := by simpa using congrArg List.length he
  have HE := Lib.hid (fun (k : Nat) (h1 : k < l.length) (h2 : k < m.length) => (show l[k].z = m[k].z from by
    have := congrArg (fun x => x[k]?) he
    simp only [List.getElem?_map, List.getElem?_eq_getElem h1, List.getElem?_eq_getElem h2, Option.map_some, Option.some.injEq] at this
    exact this))
  have Hl := Lib.hid hl
  have Hp := Lib.hid hp
  have Hq := Lib.hid hq
  rw [← hl]
  clear he hl hp hq
  go_enter Try.func35, Try.ntmps35
  go_wp2_with fail
  go_loopw [5] (fun i wr => (∃ k : Nat, k ≤ l.length ∧ i = .int .i64 k) ∧ Grew w wr) (fun i _ => l.length - (intOf i).toNat)
  case atStart => exact ⟨⟨0, Nat.zero_le _, rfl⟩, Grew.refl _⟩
  case round =>
    obtain ⟨⟨k, hk, rfl⟩, hd⟩ := hrel
    by_cases hlt : k < l.length
    · have hlt2 : k < m.length := by rw [← Hl.out]; exact hlt
      obtain ⟨ad, rfl, hb, d0, d1, d2, d3, d4⟩ := pks_at (hr.up hd (Nat.le_refl _)) hlt
      obtain ⟨ad2, rfl, hb2, e0, e1, e2, e3, e4⟩ := pks_at (hs.up hd (Nat.le_refl _)) hlt2
      have r1 := (Hp.out l[k] (List.getElem_mem hlt)).up hd (Nat.le_refl _)
      have r2 := (Hq.out m[k] (List.getElem_mem hlt2)).up hd (Nat.le_refl _)
      have hz := HE.out k hlt hlt2
      generalize l[k] = x at *
      generalize m[k] = y at *
      obtain ⟨xk, ⟨x1, x2⟩, xf, ⟨xA, xc, xz⟩⟩ := x
      obtain ⟨yk, ⟨y1, y2⟩, yf, ⟨yA, yc, yz⟩⟩ := y
      simp only [Pk.z, PkZ.mk.injEq, Prod.mk.injEq] at hz
      obtain ⟨rfl, ⟨rfl, rfl⟩, rfl, rfl⟩ := hz
      simp only [Part.v] at d0 d1 d2 d3 d4 e0 e1 e2 e3 e4 r1 r2
      have hwr := hd.size
      have hcv1 := fun n => conv_row' (r1.up (grew_drawn (w := wr) (w' := wr.drewN n) ⟨n, rfl⟩) hwr) xc
      have hcv2 := fun n => conv_row' (r2.up (grew_drawn (w := wr) (w' := wr.drewN n) ⟨n, rfl⟩) hwr) yc
      clear hlt2 hb hb2 r1 r2
      go_wp2_with fail
      go_quiet (fail)
      try go_wp2
      go_roundw
      case rel => exact ⟨⟨k + 1, by omega, by go_num⟩, hd.trans (grew_drawn ⟨_, rfl⟩)⟩
      case measure => simp [intOf]; omega
    · go_wp2_with fail
      go_ret
      exact ⟨rfl, hd⟩
end Go.Proofs.Ytpoiejgoongllaa
