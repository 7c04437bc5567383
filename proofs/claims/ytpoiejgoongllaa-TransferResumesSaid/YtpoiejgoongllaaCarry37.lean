/-
  transfer.Carry.
-/
import Derived.Test.YtpoiejgoongllaaDist37
namespace Go.Proofs.Ytpoiejgoongllaa
section
set_option linter.unusedVariables false
set_option linter.unusedSimpArgs false
set_option linter.unnecessarySimpa false
open Go.RowKit
attribute [local go_sem ↓] Go.wp_at_zero Go.wp_at_succ

/-- the numbers of a fault are of their type -/
def FtOk (f : FtZ) : Prop := -9223372036854775808 ≤ f.at_ ∧ f.at_ ≤ 9223372036854775807 ∧ -9223372036854775808 ≤ f.by_ ∧ f.by_ ≤ 9223372036854775807
theorem disturb_any (A : Option Addr) (c base : Nat) (l : List Pk) (f : FtZ) (w : World) (h : PksIs w base A c l) (h0 : 0 ≤ f.at_) (h1 : f.at_ < l.length) (hf : FtOk f) (hn : l.length ≤ 16777215) (hz : ∀ x ∈ l, x.p.zs.length ≤ 70368744177664) (hbase : base ≤ w.heap.size) :
    Calls Try.prog 72 #[.slice A l.length c, .agg #[.int .i64 f.kind, .int .i64 f.at_, .int .i64 f.by_]] w (CarRes base (strike (l.map Pk.z) f) w) := by
  obtain ⟨k, a, b⟩ := f
  obtain ⟨_, _, f3, f4⟩ := hf
  simp only at h0 h1 f3 f4 ⊢
  obtain ⟨i, rfl⟩ : ∃ i : Nat, a = i := ⟨a.toNat, by omega⟩
  have hi : i < l.length := by omega
  obtain ⟨g, rfl, _, _⟩ := own_some h.row (by omega)
  by_cases k1 : k = 1
  · subst k1
    have hm : l.length = (l.length - 1) + 1 := by omega
    have := disturb_lose g (l.length - 1) c i base l b w h hm (by omega) (by omega) hbase
    rwa [← hm] at this
  by_cases k2 : k = 2
  · subst k2; exact disturb_repeat g c i base l b w h hi hn hz hbase
  by_cases k3 : k = 3
  · subst k3
    by_cases hb : 0 ≤ (i : Int) + b ∧ (i : Int) + b < (l.length : Int)
    · obtain ⟨o, ho⟩ : ∃ o : Nat, (i : Int) + b = o := ⟨((i : Int) + b).toNat, by omega⟩
      exact disturb_swap g c i o base l b w h hi (by omega) ho hn hbase
    · exact disturb_swap_no g c i base l b w h hi hb f3 f4 hn hbase
  by_cases k4 : k = 4
  · subst k4
    by_cases hb : 0 ≤ b ∧ b / 8 < (l[i].p.zs.length : Int)
    · obtain ⟨n, rfl⟩ : ∃ n : Nat, b = n := ⟨b.toNat, by omega⟩
      exact disturb_flip g c i base n l w h hi (by omega) (hz _ (List.getElem_mem hi)) hn hbase
    · exact disturb_flip_no g c i base l b w h hi hb f4 hn hbase
  · exact disturb_none _ c base k i b l w h hbase k1 k2 k3 k4

/-- the bytes of packets lie in memory -/
def PksIn (w : World) (l : List Pk) : Prop := ∀ x ∈ l, Row w w.heap.size x.p.A (x.p.zs.map (.int .u8)) ∧ x.p.zs.length ≤ 70368744177664
theorem PksIn.up {w w' : World} {l : List Pk} (h : PksIn w l) (k : Grew w w') : PksIn w' l := fun x hx => ⟨((h x hx).1.up k (Nat.le_refl _)).more k.size, (h x hx).2⟩
theorem ftsC_get (l : List FtZ) : ∀ (k : Nat) (h : k < l.length), (ftsC l)[k * 3]? = some (.int .i64 l[k].kind) ∧ (ftsC l)[k * 3 + 1]? = some (.int .i64 l[k].at_) ∧ (ftsC l)[k * 3 + 2]? = some (.int .i64 l[k].by_) := by
  induction l with
  | nil => intro k h; simp at h
  | cons x l ih =>
    intro k h
    cases k with
    | zero => exact ⟨rfl, rfl, rfl⟩
    | succ k =>
      have e : ftsC (x :: l) = ftC x ++ ftsC l := rfl
      have hl : (ftC x).length = 3 := rfl
      obtain ⟨a, b, c⟩ := ih k (by simpa using h)
      rw [e]
      have q : ∀ j, (ftC x ++ ftsC l)[(k + 1) * 3 + j]? = (ftsC l)[k * 3 + j]? := fun j => by
        rw [List.getElem?_append_right (by omega), hl]
        congr 1
        omega
      exact ⟨(q 0).trans a, (q 1).trans b, (q 2).trans c⟩
theorem fts_at {w : World} {B : Nat} {A : Option Addr} {l : List FtZ} (hr : Row w B A (ftsC l)) {k : Nat} (h : k < l.length) :
    ∃ ad : Addr, A = some ad ∧ ad.block < B ∧ w.cell? (ad.add (k * 3)) = some (.int .i64 l[k].kind) ∧ w.cell? ⟨(ad.add (k * 3)).block, (ad.add (k * 3)).off + 1, none⟩ = some (.int .i64 l[k].at_) ∧ w.cell? ⟨(ad.add (k * 3)).block, (ad.add (k * 3)).off + 2, none⟩ = some (.int .i64 l[k].by_) := by
  obtain ⟨g0, g1, g2⟩ := ftsC_get l k h
  have hl := ftsC_len l
  have hat : ∀ (ad : Addr), A = some ad → ∀ j, j < 3 → ∀ u, (ftsC l)[k * 3 + j]? = some u → w.cell? (ad.add (k * 3 + j)) = some u := fun ad e j hj u hu => by
    obtain ⟨ad2, e2, _, hc⟩ := hr.at_ (k := k * 3 + j) (by omega)
    obtain rfl : ad = ad2 := by rw [e] at e2; injection e2
    rw [← List.getElem?_eq_getElem] at hc
    exact hc.trans hu
  obtain ⟨ad, rfl, hb, _⟩ := hr.at_ (k := k * 3) (by omega)
  refine ⟨ad, rfl, hb, hat ad rfl 0 (by omega) _ g0, ?_, ?_⟩
  · rw [show (⟨(ad.add (k * 3)).block, (ad.add (k * 3)).off + 1, none⟩ : Addr) = ad.add (k * 3 + 1) from add_add ad (k * 3) 1]; exact hat ad rfl 1 (by omega) _ g1
  · rw [show (⟨(ad.add (k * 3)).block, (ad.add (k * 3)).off + 2, none⟩ : Addr) = ad.add (k * 3 + 2) from add_add ad (k * 3) 2]; exact hat ad rfl 2 (by omega) _ g2

set_option maxRecDepth 100000 in
set_option maxHeartbeats 2000000 in
theorem carry37_any (A : Option Addr) (cap : Nat) (pl : List Pk) (F : Option Addr) (fcap : Nat) (fs : List FtZ) (w : World) (hr : Row w w.heap.size A (pksC pl)) (hin : PksIn w pl) (hf : Row w w.heap.size F (ftsC fs)) (hok : ∀ f ∈ fs, FtOk f) (hn : pl.length + fs.length ≤ 16777215) :
    Calls Try.prog 40 #[.slice A pl.length cap, .slice F fs.length fcap] w (CarRes w.heap.size (carryZ (pl.map Pk.z) fs) w) := by
  have HOk := Lib.hid hok
  have HIn := Lib.hid hin
  have HFs := Lib.hid hf
  clear hok hin hf
  go_enter Try.func40, Try.ntmps40
  go_wp2_with fail
  go_loopw [5, 12] (fun s v wr => ∃ (k : Nat) (ql : List Pk) (Ao : Option Addr) (co : Nat), k ≤ pl.length ∧ v = .int .i64 k ∧ s = .slice Ao ql.length co ∧ Hid (ql.map Pk.z = (pl.take k).map Pk.z) ∧ PksIs wr w.heap.size Ao co ql ∧ Below w.heap.size w wr) (fun _ v _ => pl.length - (intOf v).toNat)
  case atStart => exact ⟨0, [], none, 0, Nat.zero_le _, rfl, rfl, Lib.hid (by simp), ⟨World.ownsRow_nil _ _ _ _, PkOwn.nil⟩, Below.refl _ _⟩
  case round =>
    obtain ⟨k, ql, Ao, co, hk, rfl, rfl, HQ, hI, hb⟩ := hrel
    have hql : ql.length = k := by
      have := congrArg List.length HQ.out
      rw [List.length_map, List.length_map, List.length_take] at this
      omega
    have hqk : ql.length ≤ k := Nat.le_of_eq hql
    clear hql
    by_cases hlt : k < pl.length
    · obtain ⟨ad, hA, hbl, d0, d1, d2, d3, d4⟩ := pks_at (hr.below hb (Nat.le_refl _)) hlt
      have hix := (HIn.out.up hb) _ (List.getElem_mem hlt)
      have hsn := Lib.hid (List.take_succ_eq_append_getElem hlt)
      generalize pl[k] = x at *
      obtain ⟨xk, ⟨x1, x2⟩, xf, ⟨xA, xc, xz⟩⟩ := x
      simp only [Part.v] at d0 d1 d2 d3 d4 hix
      have ga := grew_alloc wr (.cells #[.int .i64 xk, .int .u64 x1, .int .i64 x2, .int .i64 xf, .slice xA xz.length xc] 55)
      have kB := Blk.new wr 55 #[.int .i64 xk, .int .u64 x1, .int .i64 x2, .int .i64 xf, .slice xA xz.length xc]
      have HI := Lib.hid hI
      have HB := Lib.hid hb
      subst hA
      go_wp2_with fail
      refine (copied_any ⟨xk, (x1, x2), xf, ⟨xA, xc, xz⟩⟩ _ (hix.1.below ga (Nat.le_refl _) |>.more ga.size) hix.2).mono ?_
      rintro e w3 ⟨A', c', rfl, hown3, hg3⟩
      have hg4 := Grew.trans ga hg3
      have hI3 := HI.out.of hg4
      have hb3 : Below w.heap.size w w3 := Below.trans (B := w.heap.size) HB.out (hg4.mono HB.out.size)
      have hs1 := ga.size
      have hs2 := hg3.size
      have hlo : ∀ y ∈ ql, ∀ q, y.p.v.ownBlock = some q → q < (wr.alloc (.cells #[.int .i64 xk, .int .u64 x1, .int .i64 x2, .int .i64 xf, .slice xA xz.length xc] 55)).heap.size := fun y hy q hq => by have := (HI.out.own.lt hy q hq).2; omega
      clear ga kB d0 d1 d2 d3 d4 hg3 hg4 hI hb hix
      generalize (wr.alloc (.cells #[.int .i64 xk, .int .u64 x1, .int .i64 x2, .int .i64 xf, .slice xA xz.length xc] 55)).heap.size = B1 at *
      have hs0 := HB.out.size
      have gV := grew_alloc w3 (.cells #[.int .i64 xk, .int .u64 x1, .int .i64 x2, .int .i64 xf, .slice A' xz.length c'] 55)
      have kV := Blk.new w3 55 #[.int .i64 xk, .int .u64 x1, .int .i64 x2, .int .i64 xf, .slice A' xz.length c']
      have hI4 := hI3.of gV
      have hown4 := own_below hown3 gV
      have hb4 : Below w.heap.size w _ := Below.trans (B := w.heap.size) hb3 (gV.mono hb3.size)
      have hO4 := hI4.own.snoc (x := ⟨xk, (x1, x2), xf, ⟨A', c', xz⟩⟩) hlo (by omega) hown4
      have hs4 := gV.size
      have HX := Lib.hid (show ∀ (A8 : Option Addr) (c8 : Nat) (w8 : World), w8.ownsRow w.heap.size 55 5 (.slice A8 (ql.length + 1) c8) (ql.length + 1) (pksC ql ++ pkC ⟨xk, (x1, x2), xf, ⟨A', c', xz⟩⟩) → (w3.alloc (.cells #[.int .i64 xk, .int .u64 x1, .int .i64 x2, .int .i64 xf, .slice A' xz.length c'] 55)).grownBy w8 (Value.slice Ao ql.length co).ownBlock →
          PksIs w8 w.heap.size A8 c8 (ql ++ [⟨xk, (x1, x2), xf, ⟨A', c', xz⟩⟩]) ∧ Below w.heap.size w w8 from fun A8 c8 w8 h1 h2 => by
        refine ⟨⟨?_, hO4.ch (Ch.of_own h2) (fun x hx q hq h => ?_)⟩, Below.trans (B := w.heap.size) hb4 (below_grown h2 (Nat.le_trans hb3.size hs4) (own_lt hI4.row))⟩
        · rw [List.length_append, List.length_singleton, pksC_append, pksC_one]
          exact h1
        · rcases List.mem_append.1 hx with hx | hx
          · exact hI4.apart hx hq h
          · rw [List.mem_singleton] at hx
            subst hx
            exact own_own_ne hown4 hI4.row (by decide) q hq h)
      have hrow := hI4.row
      have HV := Lib.hid kV.row
      clear hI3 hI4 hown3 hown4 hb3 hb4 hO4 gV kV hlo
      go_wp2_with (at_builtin; refine wpList_append_row rfl (.tmp 16) (.tmp 19) rfl w.heap.size elem_pk (by rfl) hrow _ (by rfl) (by rfl) HV.out (ones_pk ⟨xk, (x1, x2), xf, ⟨A', c', xz⟩⟩) (by unfold maxLen; omega) (by omega) (by first | omega | (simp; omega)) ?_; intro A8 c8 w8 hown8 hg8 _)
      obtain ⟨hI8, hb8⟩ := HX.out A8 c8 w8 hown8 hg8
      have HI8 := Lib.hid hI8
      have HL : Hid ((ql ++ [(⟨xk, (x1, x2), xf, ⟨A', c', xz⟩⟩ : Pk)]).map Pk.z = (pl.take (k + 1)).map Pk.z) := Lib.hid (by rw [hsn.out, List.map_append, List.map_append, HQ.out]; rfl)
      clear hI8 hown8 hg8 HX hrow HV
      go_roundw
      case rel => exact ⟨k + 1, ql ++ [⟨xk, (x1, x2), xf, ⟨A', c', xz⟩⟩], A8, c8, by omega, by go_num, by rw [List.length_append]; rfl, HL, HI8.out, hb8⟩
      case measure => simp [intOf]; omega
    · obtain rfl : k = pl.length := by omega
      rw [List.take_length] at HQ
      have HI := Lib.hid hI
      have HB := Lib.hid hb
      have hqn : ql.length ≤ pl.length := hqk
      clear hI hb hqk
      go_wp2_with fail
      go_loopw [5, 24] (fun s v wr => ∃ (k : Nat) (ql : List Pk) (Ao : Option Addr) (co : Nat), k ≤ fs.length ∧ ql.length ≤ pl.length + k ∧ v = .int .i64 k ∧ s = .slice Ao ql.length co ∧ Hid (ql.map Pk.z = carryZ (pl.map Pk.z) (fs.take k)) ∧ Hid (∀ x ∈ ql, x.p.zs.length ≤ 70368744177664) ∧ PksIs wr w.heap.size Ao co ql ∧ Below w.heap.size w wr) (fun _ v _ => fs.length - (intOf v).toNat)
      case atStart => exact ⟨0, ql, Ao, co, Nat.zero_le _, hqn, rfl, rfl, Lib.hid (by rw [HQ.out]; rfl), Lib.hid (fun x hx => by
        have h1 : x.z ∈ ql.map Pk.z := List.mem_map_of_mem hx
        rw [HQ.out] at h1
        obtain ⟨y, hy, e⟩ := List.mem_map.1 h1
        have h2 := (HIn.out y hy).2
        have h3 : y.p.zs = x.p.zs := congrArg PkZ.zs e
        rw [← h3]; exact h2), HI.out, HB.out⟩
      case round =>
        clear HQ HI HB hqn
        obtain ⟨k, ql, Ao, co, hk, hqk, rfl, rfl, HQ, HZ, hI, hb⟩ := hrel
        by_cases hlt : k < fs.length
        · obtain ⟨ad, hA, hbl, d0, d1, d2⟩ := fts_at (HFs.out.below hb (Nat.le_refl _)) hlt
          have hok := HOk.out _ (List.getElem_mem hlt)
          have hsn := Lib.hid (carryZ_snoc (pl.map Pk.z) fs k hlt)
          generalize fs[k] = f at *
          obtain ⟨fk, fa, fb⟩ := f
          simp only at d0 d1 d2
          have HOKf := Lib.hid hok
          have ga := grew_alloc wr (.cells #[.int .i64 fk, .int .i64 fa, .int .i64 fb] 93)
          have kB := Blk.new wr 93 #[.int .i64 fk, .int .i64 fa, .int .i64 fb]
          have b0 := (kB.cell 0).trans (show _ = some (.int .i64 fk) from rfl)
          have b1 := (kB.cell 1).trans (show _ = some (.int .i64 fa) from rfl)
          have b2 := (kB.cell 2).trans (show _ = some (.int .i64 fb) from rfl)
          have HI := Lib.hid (hI.of ga)
          have HB : Hid (Below w.heap.size w (wr.alloc (.cells #[.int .i64 fk, .int .i64 fa, .int .i64 fb] 93))) := Lib.hid (Below.trans (B := w.heap.size) hb (ga.mono hb.size))
          have hs0 := HB.out.size
          clear hI hb ga kB hok
          subst hA
          by_cases h0 : 0 ≤ fa
          · by_cases h1 : fa < (ql.length : Int)
            · have HD := Lib.hid (disturb_any Ao co w.heap.size ql ⟨fk, fa, fb⟩ _ HI.out h0 h1 HOKf.out (by omega) HZ.out hs0)
              go_wp2_with fail
              refine HD.out.mono ?_
              clear HD b0 b1 b2 d0 d1 d2
              rintro e w3 ⟨A', c', q', rfl, hq', hI', hb'⟩
              have HL := Lib.hid (show q'.map Pk.z = carryZ (pl.map Pk.z) (fs.take (k + 1)) from by rw [hq', hsn.out, HQ.out])
              have HZ' : Hid (∀ x ∈ q', x.p.zs.length ≤ 70368744177664) := Lib.hid (fun x hx => by
                have h2 : x.z ∈ q'.map Pk.z := List.mem_map_of_mem hx
                rw [hq'] at h2
                obtain ⟨y, hy, e, _⟩ := strike_len h2
                obtain ⟨z, hz, rfl⟩ := List.mem_map.1 hy
                have h3 := HZ.out z hz
                have h4 : x.p.zs.length = z.p.zs.length := e
                rw [h4]; exact h3)
              have hlen : q'.length ≤ pl.length + (k + 1) := by
                have h2 := congrArg List.length hq'
                rw [List.length_map] at h2
                have h3 := strike_length (ql.map Pk.z) ⟨fk, fa, fb⟩
                rw [List.length_map] at h3
                omega
              have hbb := Lib.hid (Below.trans (B := w.heap.size) HB.out hb')
              have HI' := Lib.hid hI'
              clear hq' hI' hb' HI HB
              go_wp2_with fail
              go_roundw
              case rel => exact ⟨k + 1, q', A', c', by omega, hlen, by go_num, rfl, HL, HZ', HI'.out, hbb.out⟩
              case measure => simp [intOf]; omega
            · have hst : strike (carryZ (pl.map Pk.z) (fs.take k)) ⟨fk, fa, fb⟩ = carryZ (pl.map Pk.z) (fs.take k) := strike_no (by rw [← HQ.out, List.length_map]; exact fun h => h1 (by have h2 := h.2; simp only at h2; exact h2))
              have HL := Lib.hid (show ql.map Pk.z = carryZ (pl.map Pk.z) (fs.take (k + 1)) from by rw [hsn.out, hst]; exact HQ.out)
              clear hst
              go_wp2_with fail
              go_roundw
              case rel => exact ⟨k + 1, ql, Ao, co, by omega, by omega, by go_num, rfl, HL, HZ, HI.out, HB.out⟩
              case measure => simp [intOf]; omega
          · have hst : strike (carryZ (pl.map Pk.z) (fs.take k)) ⟨fk, fa, fb⟩ = carryZ (pl.map Pk.z) (fs.take k) := strike_no (by rw [← HQ.out, List.length_map]; exact fun h => h0 h.1)
            have HL := Lib.hid (show ql.map Pk.z = carryZ (pl.map Pk.z) (fs.take (k + 1)) from by rw [hsn.out, hst]; exact HQ.out)
            clear hst
            go_wp2_with fail
            go_roundw
            case rel => exact ⟨k + 1, ql, Ao, co, by omega, by omega, by go_num, rfl, HL, HZ, HI.out, HB.out⟩
            case measure => simp [intOf]; omega
        · obtain rfl : k = fs.length := by omega
          rw [List.take_length] at HQ
          go_wp2_with fail
          go_ret
          exact ⟨Ao, co, ql, rfl, HQ.out, hI, hb⟩

end
end Go.Proofs.Ytpoiejgoongllaa
