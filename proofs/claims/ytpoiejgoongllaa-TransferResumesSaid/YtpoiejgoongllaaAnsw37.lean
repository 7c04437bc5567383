/-
  transfer.answers with the sender's closure.
-/
import Derived.Test.YtpoiejgoongllaaClos37
namespace Go.Proofs.Ytpoiejgoongllaa
section
set_option linter.unusedVariables false
set_option linter.unusedSimpArgs false
set_option linter.unnecessarySimpa false
open Go.RowKit
attribute [local go_sem ↓] Go.wp_at_zero Go.wp_at_succ

theorem answersZ_snoc (cs : List ChZ) (l : List PkZ) (x : PkZ) : answersZ cs (l ++ [x]) = answersZ cs l ++ ((srvO cs x.kind x.id x.frm).map fun ys => (⟨2, x.id, x.frm, ys⟩ : PkZ)).toList := by
  unfold answersZ
  rw [List.filterMap_append]
  rw [List.filterMap_cons]
  cases srvO cs x.kind x.id x.frm <;> rfl
theorem answersZ_length (cs : List ChZ) (l : List PkZ) : (answersZ cs l).length ≤ l.length := List.length_filterMap_le _ _
/-- the sender's memory: the map's box, the map, the texts -/
structure SndIs (w : World) (gb bm N : Nat) (cs : List ChZ) : Prop where
  box : Blk w gb 94 #[.map (some bm)]
  map : MapIs w bm N (sndM cs)
  txt : ChsIn w cs
theorem SndIs.of {w w' : World} {gb bm N : Nat} {cs : List ChZ} (h : SndIs w gb bm N cs) (k : Grew w w') : SndIs w' gb bm N cs := ⟨h.box.of k, h.map.of k, h.txt.up k⟩
set_option maxRecDepth 100000 in
set_option maxHeartbeats 2000000 in
theorem answers37_any (A : Option Addr) (c gb bm N : Nat) (ql : List Pk) (cs : List ChZ) (w : World) (hr : Row w w.heap.size A (pksC ql)) (hs : SndIs w gb bm N cs) (hwf : ∀ p ∈ ql, WfI p.id) (hn : ql.length ≤ 16777215) :
    Calls Try.prog 53 #[.slice A ql.length c, .func (Fn.func 47) #[] #[.pointer (some ⟨gb, 0, none⟩)]] w (CarRes w.heap.size (answersZ cs (ql.map Pk.z)) w) := by
  have HR := Lib.hid hr
  have HS := Lib.hid hs
  have HW := Lib.hid hwf
  clear hr hs hwf
  go_enter Try.func53, Try.ntmps53
  go_wp2_with fail
  go_loopw [5, 12] (fun s v wr => ∃ (k : Nat) (rl : List Pk) (Ao : Option Addr) (co : Nat), k ≤ ql.length ∧ rl.length ≤ k ∧ v = .int .i64 k ∧ s = .slice Ao rl.length co ∧ Hid (rl.map Pk.z = answersZ cs ((ql.map Pk.z).take k)) ∧ PksIs wr w.heap.size Ao co rl ∧ Below w.heap.size w wr) (fun _ v _ => ql.length - (intOf v).toNat)
  case atStart => exact ⟨0, [], none, 0, Nat.zero_le _, Nat.zero_le _, rfl, rfl, Lib.hid rfl, ⟨World.ownsRow_nil _ _ _ _, PkOwn.nil⟩, Below.refl _ _⟩
  case round =>
    obtain ⟨k, rl, Ao, co, hk, hrk, rfl, rfl, HQ, hI, hb⟩ := hrel
    by_cases hlt : k < ql.length
    · obtain ⟨ad, hA, hbl, d0, d1, d2, d3, d4⟩ := pks_at (HR.out.below hb (Nat.le_refl _)) hlt
      have hwx := HW.out _ (List.getElem_mem hlt)
      have hsn : (ql.map Pk.z).take (k + 1) = (ql.map Pk.z).take k ++ [ql[k].z] := by
        rw [List.take_succ_eq_append_getElem (by rw [List.length_map]; exact hlt), List.getElem_map]
      generalize ql[k] = x at *
      have hsn2 : answersZ cs ((ql.map Pk.z).take (k + 1)) = answersZ cs ((ql.map Pk.z).take k) ++ ((srvO cs x.kind x.id x.frm).map fun ys => (⟨2, x.id, x.frm, ys⟩ : PkZ)).toList := by rw [hsn, answersZ_snoc]; rfl
      have HSN := Lib.hid hsn2
      clear hsn hsn2
      have ga := grew_alloc wr (.cells #[.int .i64 x.kind, .int .u64 x.id.1, .int .i64 x.id.2, .int .i64 x.frm, x.p.v] 55)
      have HC := Lib.hid (clos37_any x gb bm N cs _ ((HS.out.of hb).of ga).box ((HS.out.of hb).of ga).map ((HS.out.of hb).of ga).txt hwx)
      obtain ⟨xk, ⟨x1, x2⟩, xf, ⟨xA, xc, xz⟩⟩ := x
      simp only [Part.v] at d0 d1 d2 d3 d4 HC ga HSN
      generalize srvO cs xk (x1, x2) xf = o at *
      have HI := Lib.hid (hI.of ga)
      have HB : Hid (Below w.heap.size w (wr.alloc (.cells #[.int .i64 xk, .int .u64 x1, .int .i64 x2, .int .i64 xf, .slice xA xz.length xc] 55))) := Lib.hid (Below.trans (B := w.heap.size) hb (ga.mono hb.size))
      clear ga hI hb hwx
      subst hA
      go_wp2_with fail
      refine HC.out.mono ?_
      clear HC d0 d1 d2 d3 d4
      rintro e w3 hres
      cases o with
      | none =>
        obtain ⟨rfl, hg⟩ := hres
        unfold pk0
        have g4 := grew_alloc w3 (.cells #[.int .i64 0, .int .u64 0, .int .i64 0, .int .i64 0, .slice none 0 0] 55)
        have hI4 := (HI.out.of hg).of g4
        have hb4 : Below w.heap.size w (w3.alloc (.cells #[.int .i64 0, .int .u64 0, .int .i64 0, .int .i64 0, .slice none 0 0] 55)) := Below.trans (B := w.heap.size) HB.out ((Grew.trans hg g4).mono HB.out.size)
        have HL : Hid (rl.map Pk.z = answersZ cs ((ql.map Pk.z).take (k + 1))) := Lib.hid (by rw [HSN.out, HQ.out]; simp)
        clear hg g4
        go_wp2_with fail
        go_roundw
        case rel => exact ⟨k + 1, rl, Ao, co, by omega, by omega, by go_num, rfl, HL, hI4, hb4⟩
        case measure => simp [intOf]; omega
      | some ys =>
        obtain ⟨A', c', rfl, hown3, hg3⟩ := hres
        unfold pkV Part.v
        simp only
        have hlo : ∀ y ∈ rl, ∀ q, y.p.v.ownBlock = some q → q < (wr.alloc (.cells #[.int .i64 xk, .int .u64 x1, .int .i64 x2, .int .i64 xf, .slice xA xz.length xc] 55)).heap.size := fun y hy q hq => (HI.out.own.lt hy q hq).2
        have hs0 := HB.out.size
        generalize (wr.alloc (.cells #[.int .i64 xk, .int .u64 x1, .int .i64 x2, .int .i64 xf, .slice xA xz.length xc] 55)) = w2 at *
        have hs1 := hg3.size
        have g4 := grew_alloc w3 (.cells #[.int .i64 2, .int .u64 x1, .int .i64 x2, .int .i64 xf, .slice A' ys.length c'] 55)
        have kB := Blk.new w3 55 #[.int .i64 2, .int .u64 x1, .int .i64 x2, .int .i64 xf, .slice A' ys.length c']
        have b0 := (kB.cell 0).trans (show _ = some (.int .i64 2) from rfl)
        have b1 := (kB.cell 1).trans (show _ = some (.int .u64 x1) from rfl)
        have b2 := (kB.cell 2).trans (show _ = some (.int .i64 x2) from rfl)
        have b3 := (kB.cell 3).trans (show _ = some (.int .i64 xf) from rfl)
        have b4 := (kB.cell 4).trans (show _ = some (.slice A' ys.length c') from rfl)
        have gV := grew_alloc (w3.alloc (.cells #[.int .i64 2, .int .u64 x1, .int .i64 x2, .int .i64 xf, .slice A' ys.length c'] 55)) (.cells #[.int .i64 2, .int .u64 x1, .int .i64 x2, .int .i64 xf, .slice A' ys.length c'] 55)
        have kV := Blk.new (w3.alloc (.cells #[.int .i64 2, .int .u64 x1, .int .i64 x2, .int .i64 xf, .slice A' ys.length c'] 55)) 55 #[.int .i64 2, .int .u64 x1, .int .i64 x2, .int .i64 xf, .slice A' ys.length c']
        rw [show (w3.alloc (.cells #[.int .i64 2, .int .u64 x1, .int .i64 x2, .int .i64 xf, .slice A' ys.length c'] 55)).heap.size = w3.heap.size + 1 by simp] at kV
        have hg34 := Grew.trans g4 gV
        have hI4 := (HI.out.of hg3).of hg34
        have hown4 := own_below hown3 hg34
        have hb4 : Below w.heap.size w ((w3.alloc (.cells #[.int .i64 2, .int .u64 x1, .int .i64 x2, .int .i64 xf, .slice A' ys.length c'] 55)).alloc (.cells #[.int .i64 2, .int .u64 x1, .int .i64 x2, .int .i64 xf, .slice A' ys.length c'] 55)) := Below.trans (B := w.heap.size) HB.out ((Grew.trans hg3 hg34).mono hs0)
        have hO4 := hI4.own.snoc (x := ⟨2, (x1, x2), xf, ⟨A', c', ys⟩⟩) hlo (by omega) hown4
        have hs4 := hg34.size
        have HX := Lib.hid (show ∀ (A8 : Option Addr) (c8 : Nat) (w8 : World), w8.ownsRow w.heap.size 55 5 (.slice A8 (rl.length + 1) c8) (rl.length + 1) (pksC rl ++ pkC ⟨2, (x1, x2), xf, ⟨A', c', ys⟩⟩) → ((w3.alloc (.cells #[.int .i64 2, .int .u64 x1, .int .i64 x2, .int .i64 xf, .slice A' ys.length c'] 55)).alloc (.cells #[.int .i64 2, .int .u64 x1, .int .i64 x2, .int .i64 xf, .slice A' ys.length c'] 55)).grownBy w8 (Value.slice Ao rl.length co).ownBlock →
            PksIs w8 w.heap.size A8 c8 (rl ++ [⟨2, (x1, x2), xf, ⟨A', c', ys⟩⟩]) ∧ Below w.heap.size w w8 from fun A8 c8 w8 h1 h2 => by
          refine ⟨⟨?_, hO4.ch (Ch.of_own h2) (fun x hx q hq h => ?_)⟩, Below.trans (B := w.heap.size) hb4 (below_grown h2 (by omega) (own_lt hI4.row))⟩
          · rw [List.length_append, List.length_singleton, pksC_append, pksC_one]
            exact h1
          · rcases List.mem_append.1 hx with hx | hx
            · exact hI4.apart hx hq h
            · rw [List.mem_singleton] at hx
              subst hx
              exact own_own_ne hown4 hI4.row (by decide) q hq h)
        have hrow := hI4.row
        have HV := Lib.hid kV.row
        have HL : Hid ((rl ++ [(⟨2, (x1, x2), xf, ⟨A', c', ys⟩⟩ : Pk)]).map Pk.z = answersZ cs ((ql.map Pk.z).take (k + 1))) := Lib.hid (by rw [HSN.out, List.map_append, HQ.out]; rfl)
        clear hI4 hown3 hown4 hb4 hO4 gV kV hlo g4 kB hg34 hg3
        go_wp2_with (at_builtin; refine wpList_append_row rfl (.tmp 23) (.tmp 25) rfl w.heap.size elem_pk (by rfl) hrow _ (by rfl) (by rfl) HV.out (ones_pk ⟨2, (x1, x2), xf, ⟨A', c', ys⟩⟩) (by unfold maxLen; omega) (by omega) (by first | omega | (simp; omega)) ?_; intro A8 c8 w8 hown8 hg8 _)
        obtain ⟨hI8, hb8⟩ := HX.out A8 c8 w8 hown8 hg8
        have HI8 := Lib.hid hI8
        clear hI8 hown8 hg8 HX hrow HV
        go_roundw
        case rel => exact ⟨k + 1, rl ++ [⟨2, (x1, x2), xf, ⟨A', c', ys⟩⟩], A8, c8, by omega, by rw [List.length_append, List.length_singleton]; omega, by go_num, by rw [List.length_append]; rfl, HL, HI8.out, hb8⟩
        case measure => simp [intOf]; omega
    · obtain rfl : k = ql.length := by omega
      rw [List.take_of_length_le (by rw [List.length_map]; exact Nat.le_refl _)] at HQ
      go_wp2_with fail
      go_ret
      exact ⟨Ao, co, rl, rfl, HQ.out, hI, hb⟩
end
end Go.Proofs.Ytpoiejgoongllaa
