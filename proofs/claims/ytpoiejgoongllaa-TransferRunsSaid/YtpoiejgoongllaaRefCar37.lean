/-
  stockyardref37.Carry: what transfer.Carry returns, the bytes shared.
-/
import Derived.Test.YtpoiejgoongllaaRefPk37
namespace Go.Proofs.Ytpoiejgoongllaa
set_option linter.unusedVariables false
set_option linter.unusedSimpArgs false
set_option linter.unnecessarySimpa false
open Go.RowKit
attribute [local go_sem ↓] Go.wp_at_zero Go.wp_at_succ


theorem nb_at {w : World} {base g n c : Nat} {xs : List Value} (h : w.ownsRow base 55 5 (.slice (some ⟨g, 0, none⟩) n c) n xs) : NoBytes w (At g) := fun i cs fr hi => own_noBytes h (by decide) i cs fr (by have h2 : i = g := hi; subst h2; rfl)
theorem grew_one {w0 w1 : World} (h1 : w0.grownBy w1 (Value.slice none 0 0).ownBlock) : Grew w0 w1 := ((Ch.of_own (v := .slice none 0 0) h1).mono (T := NoB) (fun k _ h => by cases h)).grew
theorem grew_three {w0 w1 wh w2 : World} {v : Value} (h1 : w0.grownBy w1 (Value.slice none 0 0).ownBlock) (hv : v.ownBlock = (Value.slice none 0 0).ownBlock ∨ v.ownBlock = some w0.heap.size) (hh : Grew w1 wh) (h2 : wh.grownBy w2 v.ownBlock) : Grew w0 w2 :=
  (((Ch.of_own (v := .slice none 0 0) h1).mono (T := NoB) (fun k _ h => by cases h)).next hh |>.nextNew (Ch.of_own h2) (fun i hi => .inl (by
    rcases hv with h | h
    · rw [h] at hi; cases hi
    · rw [h] at hi; injection hi with hi; omega))).grew
theorem row_pks_take {w : World} {B : Nat} {A : Option Addr} {l : List Pk} (h : Row w B A (pksC l)) {k : Nat} : Row w B A (pksC (l.take k)) := by
  rw [← pksC_take]; exact row_take h _
theorem row_pks_drop {w : World} {B g : Nat} {l : List Pk} (h : Row w B (some ⟨g, 0, none⟩) (pksC l)) (c k : Nat) (hc : c = k → l.length ≤ k) : Row w B (if c = k then some ⟨g, 0, none⟩ else some ⟨g, k * 5, none⟩) (pksC (l.drop k)) := by
  split
  · rename_i e
    rw [List.drop_of_length_le (hc e)]; exact .inl rfl
  · have h2 := h.cut (k * 5) (((pksC l).drop (k * 5)).length)
    rw [List.take_of_length_le (Nat.le_refl _), pksC_drop] at h2
    simp only [Option.map_some, Addr.add_lit, Nat.zero_add] at h2
    exact h2

/-- the state between two faults -/
def CrS (w : World) (pl : List Pk) (fs : List FtZ) (k : Nat) (ql : List Pk) (Ao : Option Addr) (co : Nat) (wr : World) : Prop :=
  ql.map Pk.z = carryZ (pl.map Pk.z) (fs.take k) ∧ PksR wr w.heap.size Ao co ql ∧ Below w.heap.size w wr ∧ ql.length ≤ pl.length + k

theorem CrS.of {w wr w' : World} {pl ql : List Pk} {fs : List FtZ} {k : Nat} {Ao : Option Addr} {co : Nat} (h : CrS w pl fs k ql Ao co wr) (hg : Grew wr w') : CrS w pl fs k ql Ao co w' :=
  ⟨h.1, h.2.1.of hg h.2.2.1.size, Below.trans (B := w.heap.size) h.2.2.1 (hg.mono h.2.2.1.size), h.2.2.2⟩
theorem pks_set4 {l : List Pk} {i : Nat} (hi : i < l.length) {k f : Int} {id : IdZ} {p q : Part} (hx : l[i] = ⟨k, id, f, p⟩) {n : Nat} (hn : q.zs.length = n) : pksC (l.set i ⟨k, id, f, q⟩) = (pksC l).set (i * 5 + 4) (.slice q.A n q.cap) := by
  subst hn
  have e : pksC l = (pksC l).take (i * 5) ++ (pkC ⟨k, id, f, p⟩ ++ (pksC l).drop (i * 5 + 5)) := by
    have h1 := pksC_set l i l[i] hi
    rw [List.set_getElem_self, hx, List.append_assoc] at h1
    exact h1
  have hl : ((pksC l).take (i * 5)).length = i * 5 := by rw [List.length_take, pksC_len]; omega
  conv => rhs; rw [e]
  rw [pksC_set _ _ _ hi, List.set_append_right _ _ (by rw [hl]; omega), hl, show i * 5 + 4 - i * 5 = 4 by omega, List.append_assoc]
  rfl
theorem quo8 (n : Nat) : (n : Int) / 8 = ((n / 8 : Nat) : Int) := by omega
theorem rem8 (n : Nat) : (n : Int).tmod 8 = ((n % 8 : Nat) : Int) := by rw [Int.tmod_eq_emod_of_nonneg (Int.natCast_nonneg n)]; omega
theorem wrap_n8 {n : Nat} (h : (n : Int) ≤ 9223372036854775807) : wrap64 ((n : Int) / 8) = (n : Int) / 8 := Go.IntWalk.wrap64_in _ (by omega)
theorem wrap_q {q n : Nat} (h : n ≤ 70368744177664) (hq : q < n) : wrap64 (q : Int) = (q : Int) := Go.IntWalk.wrap64_in _ (by omega)
theorem app_m {n : Nat} (h : n ≤ 70368744177664) : 0 + n ≤ maxLen := by unfold maxLen; omega
theorem app_b {n : Nat} (h : n ≤ 70368744177664) : (0 + n) * 1 ≤ 140737488355328 := by omega
theorem new_block {gb n c k : Nat} (h : (Value.slice (some ⟨gb, 0, none⟩) n c).ownBlock = (Value.slice none 0 0).ownBlock ∨ (Value.slice (some ⟨gb, 0, none⟩) n c).ownBlock = some k) : gb = k := by
  rcases h with h | h
  · cases h
  · injection h
theorem refCarry_flip {w1 wt : World} {base i n q g gb co c5 : Nat} {ql : List Pk} {xk xf : Int} {xid : IdZ} {bA : Option Addr} {bc : Nat} {zs : List Int} (HI : PksR w1 base (some ⟨g, 0, none⟩) co ql) (hbase : base ≤ w1.heap.size) (hi : i < ql.length)
    (hx : ql[i] = ⟨xk, xid, xf, ⟨bA, bc, zs⟩⟩) (hG : Grew w1 wt) (hgb : w1.heap.size ≤ gb) (hown : wt.ownsRow base 5 1 (.slice (some ⟨gb, 0, none⟩) zs.length c5) zs.length (zs.map (.int .u8))) (V : Int) (hFL : flipZ zs n = zs.set q V) :
    Grew w1 (wt.setCell ⟨gb, q, none⟩ (.int .u8 V)) ∧ PksR (wt.setCell ⟨gb, q, none⟩ (.int .u8 V)) base (some ⟨g, 0, none⟩) co ql ∧
    PksR ((wt.setCell ⟨gb, q, none⟩ (.int .u8 V)).setCell ⟨g, i * 5 + 4, none⟩ (.slice (some ⟨gb, 0, none⟩) zs.length c5)) base (some ⟨g, 0, none⟩) co (ql.set i ⟨xk, xid, xf, ⟨some ⟨gb, 0, none⟩, c5, flipZ zs n⟩⟩) ∧
    Below base w1 ((wt.setCell ⟨gb, q, none⟩ (.int .u8 V)).setCell ⟨g, i * 5 + 4, none⟩ (.slice (some ⟨gb, 0, none⟩) zs.length c5)) := by
  obtain ⟨hst, hstg⟩ := hown.stored q (.int .u8 V)
  have hG7 : Grew w1 (wt.setCell ⟨gb, q, none⟩ (.int .u8 V)) := ((Ch.of_below (S := NoB) hG).nextNew (Ch.of_grown hstg) (fun j h => .inl (by have h9 : j = gb := h; omega))).grew
  have hnew : (wt.setCell ⟨gb, q, none⟩ (.int .u8 V)).ownsRow base 5 1 (.slice (some ⟨gb, 0, none⟩) zs.length c5) zs.length ((flipZ zs n).map (.int .u8)) := by
    rw [hFL, List.map_set]
    exact hst
  have hTX := Tx.own hnew
  have hI7 := HI.of hG7 hbase
  have hbs := Nat.le_trans hbase hG7.size
  obtain ⟨hs8, hs8g⟩ := hI7.row.stored (i * 5 + 4) (.slice (some ⟨gb, 0, none⟩) zs.length c5)
  have hc8 := Ch.of_grown hs8g
  have hgl : ∀ j, At g j → base ≤ j := fun j hj => by have h9 : j = g := hj; subst h9; exact own_lt hI7.row j rfl
  refine ⟨hG7, hI7, ⟨?_, fun z hz => ?_⟩, Below.trans (B := base) (hG7.mono hbase) (hc8.below hbs hgl)⟩
  · rw [List.length_set, pks_set4 hi hx (q := ⟨some ⟨gb, 0, none⟩, c5, flipZ zs n⟩) (n := zs.length) (by simp only [flipZ_length])]
    exact hs8
  · rcases List.mem_or_eq_of_mem_set hz with h | rfl
    · exact (hI7.bt z h).ch hc8 hbs hgl (nb_at hI7.row)
    · exact .inr (hTX.ch hc8 (nb_at hI7.row))
theorem refCarry_step {w wr w' : World} {pl ql ql' : List Pk} {fs : List FtZ} {k : Nat} (h : k < fs.length) {Ao A' : Option Addr} {co c' : Nat} (hs : CrS w pl fs k ql Ao co wr) (hq : ql'.map Pk.z = strike (ql.map Pk.z) fs[k])
    (hr : PksR w' w.heap.size A' c' ql') (hb : Below w.heap.size wr w') : CrS w pl fs (k + 1) ql' A' c' w' := by
  refine ⟨by rw [hq, carryZ_snoc _ _ _ h, hs.1], hr, Below.trans (B := w.heap.size) hs.2.2.1 hb, ?_⟩
  have h1 := congrArg List.length hq
  have h2 := strike_length (ql.map Pk.z) fs[k]
  have h3 := hs.2.2.2
  rw [List.length_map] at h1 h2
  omega

set_option maxRecDepth 100000 in
set_option maxHeartbeats 4000000 in
theorem refCarry_any (A : Option Addr) (cap : Nat) (pl : List Pk) (F : Option Addr) (fcap : Nat) (fs : List FtZ) (w : World) (hr : Row w w.heap.size A (pksC pl)) (hin : PksIn w pl) (hf : Row w w.heap.size F (ftsC fs)) (hok : ∀ f ∈ fs, FtOk f) (hn : pl.length + fs.length ≤ 16777215) :
    Calls Try.prog 41 #[.slice A pl.length cap, .slice F fs.length fcap] w (RefRes w.heap.size (carryZ (pl.map Pk.z) fs) w) := by
  have HOk := Lib.hid hok
  have HIn := Lib.hid hin
  have HFs := Lib.hid hf
  clear hok hin hf
  go_enter Try.func41, Try.ntmps41
  go_wp2_with (at_builtin; refine wpList_append_row rfl (.const (.slice none 0 0)) (.tmp 9) rfl w.heap.size elem_pk (by rfl) (World.ownsRow_nil _ _ _ _) _ (by rfl) (pksC_len _) hr (ones_pks _) (by unfold maxLen; omega) (by omega) (Nat.le_refl _) ?_; intro A0 c0 w0 hown0 hg0 _)
  have HS0 : Hid (CrS w pl fs 0 pl A0 c0 w0) := Lib.hid (by
    have hb : Below w.heap.size w w0 := below_grown (v := .slice none 0 0) hg0 (Nat.le_refl _) (fun k hk => by cases hk)
    rw [List.nil_append, Nat.zero_add] at hown0
    exact ⟨rfl, ⟨hown0, fun x hx => .inl ((HIn.out x hx).1.below hb (Nat.le_refl _))⟩, hb, Nat.le_refl _⟩)
  try rw [Nat.zero_add]
  clear hown0 hg0
  go_wp2_with fail
  go_loopw [5, 6] (fun s v wr => ∃ (k : Nat) (ql : List Pk) (Ao : Option Addr) (co : Nat), k ≤ fs.length ∧ v = .int .i64 k ∧ s = .slice Ao ql.length co ∧ Hid (CrS w pl fs k ql Ao co wr)) (fun _ v _ => fs.length - (intOf v).toNat)
  case atStart => exact ⟨0, pl, A0, c0, Nat.zero_le _, rfl, rfl, HS0⟩
  case round =>
    clear HS0
    obtain ⟨k, ql, Ao, co, hk, rfl, rfl, HS⟩ := hrel
    by_cases hlt : k < fs.length
    · obtain ⟨ad, hA, hbl, d0, d1, d2⟩ := fts_at (HFs.out.below HS.out.2.2.1 (Nat.le_refl _)) hlt
      have hok := HOk.out _ (List.getElem_mem hlt)
      have HT : Hid (∀ (w' : World) (ql' : List Pk) (A' : Option Addr) (c' : Nat), ql'.map Pk.z = strike (ql.map Pk.z) fs[k] → PksR w' w.heap.size A' c' ql' → Below w.heap.size wr w' → CrS w pl fs (k + 1) ql' A' c' w') := Lib.hid (fun _ _ _ _ a b c => refCarry_step hlt HS.out a b c)
      generalize fs[k] = f at *
      obtain ⟨fk, fa, fb⟩ := f
      simp only at d0 d1 d2
      have HOKf := Lib.hid hok
      have ga := grew_alloc wr (.cells #[.int .i64 fk, .int .i64 fa, .int .i64 fb] 93)
      have kB := Blk.new wr 93 #[.int .i64 fk, .int .i64 fa, .int .i64 fb]
      have b0 := (kB.cell 0).trans (show _ = some (.int .i64 fk) from rfl)
      have b1 := (kB.cell 1).trans (show _ = some (.int .i64 fa) from rfl)
      have b2 := (kB.cell 2).trans (show _ = some (.int .i64 fb) from rfl)
      have hs0 : w.heap.size ≤ wr.heap.size := HS.out.2.2.1.size
      have hql : ql.length ≤ 16777215 := by have := HS.out.2.2.2; omega
      have HB : Hid (Below w.heap.size wr (wr.alloc (.cells #[.int .i64 fk, .int .i64 fa, .int .i64 fb] 93))) := Lib.hid (ga.mono hs0)
      have HI := Lib.hid (HS.out.2.1.of ga hs0)
      have hs1 : w.heap.size ≤ (wr.alloc (.cells #[.int .i64 fk, .int .i64 fa, .int .i64 fb] 93)).heap.size := Nat.le_trans hs0 ga.size
      have HSZ := Lib.hid hs1
      clear ga kB hok hs1
      subst hA
      by_cases hin : 0 ≤ fa ∧ fa < (ql.length : Int)
      · obtain ⟨h0, h1⟩ := hin
        have h2 : ¬ (ql.length : Int) ≤ fa := by omega
        have h3 : ¬ fa < 0 := by omega
        obtain ⟨i, rfl⟩ : ∃ i : Nat, fa = i := ⟨fa.toNat, by omega⟩
        have hi : i < ql.length := by omega
        have hrow := HI.out.row
        obtain ⟨g, rfl⟩ : ∃ g, Ao = some ⟨g, 0, none⟩ := by
          obtain ⟨g, h, _⟩ := own_some hrow (by omega)
          exact ⟨g, h⟩
        have hgl : g < wr.heap.size := by have := (HS.out.2.1.row.lt g rfl).2; omega
        have HZ : Hid (∀ x ∈ ql, x.p.zs.length ≤ 70368744177664) := Lib.hid (fun x hx => by
          have h1 : x.z ∈ ql.map Pk.z := List.mem_map_of_mem hx
          rw [HS.out.1] at h1
          obtain ⟨y, hy, e, _⟩ := carryZ_len h1
          obtain ⟨z, hz, rfl⟩ := List.mem_map.1 hy
          have h3 := (HIn.out z hz).2
          have h4 : x.p.zs.length = z.p.zs.length := e
          rw [h4]; exact h3)
        have hcap := (own_cap hrow)
        clear hrow HS
        obtain ⟨hc1, hc2⟩ := hcap
        have hkk : fk = 1 ∨ fk = 2 ∨ fk = 3 ∨ fk = 4 ∨ (fk ≠ 1 ∧ fk ≠ 2 ∧ fk ≠ 3 ∧ fk ≠ 4) := by omega
        rcases hkk with rfl | rfl | rfl | rfl | ⟨k1, k2, k3, k4⟩
        · have hw1 : IntKind.i64.wrap ((i : Int) + 1) = (i : Int) + 1 := Go.IntWalk.i64_in _ (by omega)
          have hiq : (i : Int) ≤ (co : Int) := by omega
          have hjq : (i : Int) + 1 ≤ (ql.length : Int) := by omega
          have hjm : (i : Int) ≤ (ql.length : Int) := by omega
          have hjn : 0 ≤ (i : Int) + 1 := by omega
          have hjt : ((i : Int) + 1).toNat = i + 1 := by omega
          go_wp2_with fail
          generalize (wr.alloc (.cells #[.int .i64 1, .int .i64 i, .int .i64 fb] 93)) = w1 at *
          refine wp_region_g 11 (by kernel_rfl) ?_
          refine AllC.head 0 4 (fuel := 8) (by first | exact fun h k => Grew.trans h k | exact fun h k => cls_grew h k) (grew_drew _) (by rfl) (by kernel_rfl) ?_
          simp only [List.take_succ_cons, List.take_zero, List.drop_succ_cons, List.drop_zero]
          repeat (first
            | (refine HeadC.val (by rfl) ?_
               apply Exists.intro
               refine ⟨fun w' hw' => ?_, ?_⟩
               · (have hf_0 := cell_up hw' b1; (go_simp) <;> (try go_ints) <;> with_reducible rfl)
               try simp only [Act.put, List.setIfInBounds_toArray, List.set_cons_zero, List.set_cons_succ])
            | (refine HeadC.shut (by rfl) ?_
               try simp only [Act.put, List.setIfInBounds_toArray, List.set_cons_zero, List.set_cons_succ]))
          refine HeadC.nil ?_
          refine AllC.head 5 5 (fuel := 3) (by first | exact fun h k => Grew.trans h k | exact fun h k => cls_grew h k) (grew_drew _) (by rfl) (by kernel_rfl) ?_
          simp only [List.take_succ_cons, List.take_zero, List.drop_succ_cons, List.drop_zero]
          repeat (first
            | (refine HeadC.val (by rfl) ?_
               apply Exists.intro
               refine ⟨fun w' hw' => ?_, ?_⟩
               · (have hf_0 := cell_up hw' b1; (go_simp) <;> (try go_ints) <;> with_reducible rfl)
               try simp only [Act.put, List.setIfInBounds_toArray, List.set_cons_zero, List.set_cons_succ])
            | (refine HeadC.shut (by rfl) ?_
               try simp only [Act.put, List.setIfInBounds_toArray, List.set_cons_zero, List.set_cons_succ]))
          refine HeadC.nil ?_
          refine AllC.one 4 (by kernel_rfl) rfl ?_
          intro wg hg K hK
          have hg1 : Grew w1 wg := (grew_drew w1).trans hg
          have hI1 := HI.out.of hg1 HSZ.out
          have hsz1 := Nat.le_trans HSZ.out hg1.size
          have hrow1 := (own_row hI1.row)
          refine step_append_row rfl (.const (.slice none 0 0)) (.tmp 38) rfl w.heap.size elem_pk (by rfl) (World.ownsRow_nil _ _ _ _) _ (by rfl) (by rw [pksC_len]; rw [List.length_take]; omega) (row_pks_take hrow1 (k := i)) (ones_pks _) (by unfold maxLen; omega) (by omega) hsz1 ?_
          intro A2 c2 w2 hown2 hg2 hv2
          rw [List.nil_append] at hown2
          have hG2 := hg1.trans (grew_one hg2)
          refine hK.out _ _ hG2 ?_
          clear hK K hrow1
          try simp only [Act.put, List.setIfInBounds_toArray, List.set_cons_zero, List.set_cons_succ]
          refine AllC.one 10 (by kernel_rfl) rfl ?_
          intro wh hh K hK
          have hI2 := HI.out.of (hG2.trans hh) HSZ.out
          have hrow2 := (own_row hI2.row)
          have hsz2 := Nat.le_trans HSZ.out (hG2.trans hh).size
          have hownh := own_below hown2 hh
          refine step_append_row rfl (.tmp 39) (.tmp 44) rfl w.heap.size elem_pk (by rfl) hownh _ (by rfl) (by rw [pksC_len]; rw [List.length_drop]) (row_pks_drop hrow2 co (i + 1) (fun h => by omega)) (ones_pks _) (by unfold maxLen; omega) (by omega) hsz2 ?_
          intro A3 c3 w3 hown3 hg3 _
          have hG3 : Grew w1 w3 := hg1.trans (grew_three hg2 hv2 hh hg3)
          refine hK.out _ _ hG3 ?_
          clear hK K hrow2 hI1 hI2 hg1 hG2 hown2 hownh hg2 hv2 hh hg3 hsz1 hsz2
          try simp only [Act.put, List.setIfInBounds_toArray, List.set_cons_zero, List.set_cons_succ]
          refine AllC.tail 11 (by rfl) (by kernel_rfl) ?_
          intro wt hwt
          simp only [List.drop_succ_cons, List.drop_zero]
          have hG4 := hG3.trans hwt
          have hown4 := own_below hown3 hwt
          have hlen : (ql.take i ++ ql.drop (i + 1)).length = 0 + i + (ql.length - (i + 1)) := by rw [List.length_append, List.length_take, List.length_drop]; omega
          have HL := Lib.hid (HT.out wt (ql.take i ++ ql.drop (i + 1)) A3 c3 (by rw [strike_lose (by rw [List.length_map]; exact hi), List.map_append, List.map_take, List.map_drop, ← List.eraseIdx_eq_take_drop_succ]) ⟨by rw [hlen]; rw [← pksC_append] at hown4; exact hown4, fun x hx => (HI.out.of hG4 HSZ.out).bt x ((List.mem_append.1 hx).elim List.mem_of_mem_take List.mem_of_mem_drop)⟩ (Below.trans (B := w.heap.size) HB.out (hG4.mono HSZ.out)))
          clear HT HI HB hown3 hown4 hG3 hG4 hwt
          go_wp2_with fail
          go_roundw
          case rel => exact ⟨k + 1, ql.take i ++ ql.drop (i + 1), A3, c3, by omega, by go_num, by first | rw [hlen] | (rw [hlen, Nat.zero_add]), HL⟩
          case measure => simp [intOf]; omega
        · have hw1 : IntKind.i64.wrap ((i : Int) + 1) = (i : Int) + 1 := Go.IntWalk.i64_in _ (by omega)
          have hiq : (i : Int) ≤ (co : Int) := by omega
          have hjq : (i : Int) + 1 ≤ (ql.length : Int) := by omega
          have hjm : (i : Int) ≤ (ql.length : Int) := by omega
          have hjn : 0 ≤ (i : Int) + 1 := by omega
          have hjt : ((i : Int) + 1).toNat = i + 1 := by omega
          have hcj : (i : Int) + 1 ≤ (co : Int) := by omega
          go_wp2_with fail
          generalize (wr.alloc (.cells #[.int .i64 2, .int .i64 i, .int .i64 fb] 93)) = w1 at *
          refine wp_region_g 11 (by kernel_rfl) ?_
          refine AllC.head 0 5 (fuel := 7) (by first | exact fun h k => Grew.trans h k | exact fun h k => cls_grew h k) (grew_drew _) (by rfl) (by kernel_rfl) ?_
          simp only [List.take_succ_cons, List.take_zero, List.drop_succ_cons, List.drop_zero]
          repeat (first
            | (refine HeadC.val (by rfl) ?_
               apply Exists.intro
               refine ⟨fun w' hw' => ?_, ?_⟩
               · (have hf_0 := cell_up hw' b1; (go_simp) <;> (try go_ints) <;> with_reducible rfl)
               try simp only [Act.put, List.setIfInBounds_toArray, List.set_cons_zero, List.set_cons_succ])
            | (refine HeadC.shut (by rfl) ?_
               try simp only [Act.put, List.setIfInBounds_toArray, List.set_cons_zero, List.set_cons_succ]))
          refine HeadC.nil ?_
          refine AllC.head 6 4 (fuel := 3) (by first | exact fun h k => Grew.trans h k | exact fun h k => cls_grew h k) (grew_drew _) (by rfl) (by kernel_rfl) ?_
          simp only [List.take_succ_cons, List.take_zero, List.drop_succ_cons, List.drop_zero]
          repeat (first
            | (refine HeadC.val (by rfl) ?_
               apply Exists.intro
               refine ⟨fun w' hw' => ?_, ?_⟩
               · (have hf_0 := cell_up hw' b1; (go_simp) <;> (try go_ints) <;> with_reducible rfl)
               try simp only [Act.put, List.setIfInBounds_toArray, List.set_cons_zero, List.set_cons_succ])
            | (refine HeadC.shut (by rfl) ?_
               try simp only [Act.put, List.setIfInBounds_toArray, List.set_cons_zero, List.set_cons_succ]))
          refine HeadC.nil ?_
          refine AllC.one 5 (by kernel_rfl) rfl ?_
          intro wg hg K hK
          have hg1 : Grew w1 wg := (grew_drew w1).trans hg
          have hI1 := HI.out.of hg1 HSZ.out
          have hsz1 := Nat.le_trans HSZ.out hg1.size
          have hrow1 := (own_row hI1.row)
          refine step_append_row rfl (.const (.slice none 0 0)) (.tmp 52) rfl w.heap.size elem_pk (by rfl) (World.ownsRow_nil _ _ _ _) _ (by rfl) (by rw [pksC_len]; rw [List.length_take]; omega) (row_pks_take hrow1 (k := i + 1)) (ones_pks _) (by unfold maxLen; omega) (by omega) hsz1 ?_
          intro A2 c2 w2 hown2 hg2 hv2
          rw [List.nil_append] at hown2
          have hG2 := hg1.trans (grew_one hg2)
          refine hK.out _ _ hG2 ?_
          clear hK K hrow1
          try simp only [Act.put, List.setIfInBounds_toArray, List.set_cons_zero, List.set_cons_succ]
          refine AllC.one 10 (by kernel_rfl) rfl ?_
          intro wh hh K hK
          have hI2 := HI.out.of (hG2.trans hh) HSZ.out
          have hrow2 := (own_row hI2.row)
          have hsz2 := Nat.le_trans HSZ.out (hG2.trans hh).size
          have hownh := own_below hown2 hh
          refine step_append_row rfl (.tmp 53) (.tmp 57) rfl w.heap.size elem_pk (by rfl) hownh _ (by rfl) (by rw [pksC_len]; rw [List.length_drop]) (row_pks_drop hrow2 co i (fun h => by omega)) (ones_pks _) (by unfold maxLen; omega) (by omega) hsz2 ?_
          intro A3 c3 w3 hown3 hg3 _
          have hG3 : Grew w1 w3 := hg1.trans (grew_three hg2 hv2 hh hg3)
          refine hK.out _ _ hG3 ?_
          clear hK K hrow2 hI1 hI2 hg1 hG2 hown2 hownh hg2 hv2 hh hg3 hsz1 hsz2
          try simp only [Act.put, List.setIfInBounds_toArray, List.set_cons_zero, List.set_cons_succ]
          refine AllC.tail 11 (by rfl) (by kernel_rfl) ?_
          intro wt hwt
          simp only [List.drop_succ_cons, List.drop_zero]
          have hG4 := hG3.trans hwt
          have hown4 := own_below hown3 hwt
          have hlen : (ql.take (i + 1) ++ ql.drop i).length = 0 + (i + 1) + (ql.length - i) := by rw [List.length_append, List.length_take, List.length_drop]; omega
          have HL := Lib.hid (HT.out wt (ql.take (i + 1) ++ ql.drop i) A3 c3 (by rw [strike_repeat (by rw [List.length_map]; exact hi), List.map_append, List.map_take, List.map_drop, List.getElem_cons_drop]) ⟨by rw [hlen]; rw [← pksC_append] at hown4; exact hown4, fun x hx => (HI.out.of hG4 HSZ.out).bt x ((List.mem_append.1 hx).elim List.mem_of_mem_take List.mem_of_mem_drop)⟩ (Below.trans (B := w.heap.size) HB.out (hG4.mono HSZ.out)))
          clear HT HI HB hown3 hown4 hG3 hG4 hwt
          go_wp2_with fail
          go_roundw
          case rel => exact ⟨k + 1, ql.take (i + 1) ++ ql.drop i, A3, c3, by omega, by go_num, by first | rw [hlen] | (rw [hlen, Nat.zero_add]), HL⟩
          case measure => simp [intOf]; omega
        · have hfb := HOKf.out.2.2
          simp only at hfb
          obtain ⟨hfb1, hfb2⟩ := hfb
          have hwn : IntKind.i64.wrap (-(i : Int)) = -(i : Int) := Go.IntWalk.i64_in _ (by omega)
          have hwn2 : wrap64 (-(i : Int)) = -(i : Int) := Go.IntWalk.wrap64_in _ (by omega)
          have hwm : IntKind.i64.wrap ((ql.length : Int) - (i : Int)) = (ql.length : Int) - (i : Int) := Go.IntWalk.i64_in _ (by omega)
          have hwm2 : wrap64 ((ql.length : Int) - (i : Int)) = (ql.length : Int) - (i : Int) := Go.IntWalk.wrap64_in _ (by omega)
          by_cases hn1 : -(i : Int) ≤ fb
          · have hd1 : decide (-(i : Int) ≤ fb) = true := by simp [hn1]
            by_cases hn2 : fb < (ql.length : Int) - (i : Int)
            · have hd2 : decide (fb < (ql.length : Int) - (i : Int)) = true := by simp [hn2]
              obtain ⟨o, hb⟩ : ∃ o : Nat, (i : Int) + fb = o := ⟨((i : Int) + fb).toNat, by omega⟩
              have ho : o < ql.length := by omega
              have hv : IntKind.i64.wrap ((i : Int) + fb) = (o : Int) := by rw [hb]; exact Go.IntWalk.i64_in _ (by omega)
              have hv2 : wrap64 ((i : Int) + fb) = (o : Int) := by rw [hb]; exact Go.IntWalk.wrap64_in _ (by omega)
              have hoI : (o : Int) < (ql.length : Int) := by omega
              have Hhb := Lib.hid hb
              have hng : ¬ At g wr.heap.size := fun h => by have h9 : wr.heap.size = g := h; omega
              have hpi : i * 5 + 5 ≤ (pksC ql).length := by rw [pksC_len]; omega
              clear hb
              go_wp2_with fail
              generalize (wr.alloc (.cells #[.int .i64 3, .int .i64 i, .int .i64 fb] 93)) = w1 at *
              obtain ⟨d0, d1, d2, d3, d4⟩ := pks_lit (own_row HI.out.row) hi
              obtain ⟨e0, e1, e2, e3, e4⟩ := pks_lit (own_row HI.out.row) ho
              generalize hx : ql[i] = x at *
              generalize hy : ql[o] = y at *
              obtain ⟨xk, ⟨x1, x2⟩, xf, ⟨xA, xc, xz⟩⟩ := x
              obtain ⟨yk, ⟨y1, y2⟩, yf, ⟨yA, yc, yz⟩⟩ := y
              simp only at d0 d1 d2 d3 d4 e0 e1 e2 e3 e4
              refine wp_region_cls (Ch (At g) w1) 24 (by kernel_rfl) ?_
              have hc0 := (Ch.refl (At g) w1).drew
              refine AllC.head 0 16 (fuel := 10) (by first | exact fun h k => Grew.trans h k | exact fun h k => cls_grew h k) (hc0) (by rfl) (by kernel_rfl) ?_
              simp only [List.take_succ_cons, List.take_zero, List.drop_succ_cons, List.drop_zero]
              repeat (first
                | (refine HeadC.val (by rfl) ?_
                   apply Exists.intro
                   refine ⟨fun w' hw' => ?_, ?_⟩
                   · (have hf_0 := hw'.cell b1 hng; have hf_1 := hw'.cell b2 hng; (go_simp) <;> (try go_ints) <;> with_reducible rfl)
                   try simp only [Act.put, List.setIfInBounds_toArray, List.set_cons_zero, List.set_cons_succ])
                | (refine HeadC.shut (by rfl) ?_
                   try simp only [Act.put, List.setIfInBounds_toArray, List.set_cons_zero, List.set_cons_succ]))
              refine HeadC.nil ?_
              refine AllC.head 17 4 (fuel := 6) (by first | exact fun h k => Grew.trans h k | exact fun h k => cls_grew h k) (hc0) (by rfl) (by kernel_rfl) ?_
              simp only [List.take_succ_cons, List.take_zero, List.drop_succ_cons, List.drop_zero]
              repeat (first
                | (refine HeadC.val (by rfl) ?_
                   apply Exists.intro
                   refine ⟨fun w' hw' => ?_, ?_⟩
                   · (have hf_0 := hw'.cell b1 hng; have hf_1 := hw'.cell b2 hng; (go_simp) <;> (try go_ints) <;> with_reducible rfl)
                   try simp only [Act.put, List.setIfInBounds_toArray, List.set_cons_zero, List.set_cons_succ])
                | (refine HeadC.shut (by rfl) ?_
                   try simp only [Act.put, List.setIfInBounds_toArray, List.set_cons_zero, List.set_cons_succ]))
              refine HeadC.nil ?_
              have HIw := Lib.hid (HI.out.row)
              refine AllC.both [16, 21] (by kernel_rfl) (by simp) ?_
              intro wg hg i' hi'
              simp only [List.mem_cons, List.not_mem_nil, or_false] at hi'
              rcases hi' with rfl | rfl
              · refine ⟨_, rfl, fun K hK => ?_⟩
                have hg0 : Grew w1 wg := (grew_drew _).trans hg
                replace d0 := cell_up hg0 d0; replace d1 := cell_up hg0 d1; replace d2 := cell_up hg0 d2; replace d3 := cell_up hg0 d3; replace d4 := cell_up hg0 d4
                replace e0 := cell_up hg0 e0; replace e1 := cell_up hg0 e1; replace e2 := cell_up hg0 e2; replace e3 := cell_up hg0 e3; replace e4 := cell_up hg0 e4
                go_simp
                refine hK.out _ _ (hc0.next hg) ?_
                clear hK K hg
                try simp only [Act.put, List.setIfInBounds_toArray, List.set_cons_zero, List.set_cons_succ]
                obtain ⟨wh, hwh⟩ : ∃ x, x = wg := ⟨_, rfl⟩
                subst hwh
                refine AllC.one 21 (by kernel_rfl) rfl ?_
                intro wg hg K hK
                replace hg0 := Grew.trans hg0 hg
                replace d0 := cell_up hg d0; replace d1 := cell_up hg d1; replace d2 := cell_up hg d2; replace d3 := cell_up hg d3; replace d4 := cell_up hg d4
                replace e0 := cell_up hg e0; replace e1 := cell_up hg e1; replace e2 := cell_up hg e2; replace e3 := cell_up hg e3; replace e4 := cell_up hg e4
                go_simp
                refine hK.out _ _ (Ch.of_below hg0) ?_
                clear hK K hg
                try simp only [Act.put, List.setIfInBounds_toArray, List.set_cons_zero, List.set_cons_succ]
                clear wh
                obtain ⟨wh, hwh⟩ : ∃ x, x = wg := ⟨_, rfl⟩
                subst hwh
                refine AllC.one 22 (by kernel_rfl) rfl ?_
                intro wg hg K hK
                replace hg0 := Grew.trans hg0 hg
                replace d0 := cell_up hg d0; replace d1 := cell_up hg d1; replace d2 := cell_up hg d2; replace d3 := cell_up hg d3; replace d4 := cell_up hg d4
                replace e0 := cell_up hg e0; replace e1 := cell_up hg e1; replace e2 := cell_up hg e2; replace e3 := cell_up hg e3; replace e4 := cell_up hg e4
                go_simp
                refine hK.out _ _ (Ch.of_below hg0) ?_
                clear hK K hg
                try simp only [Act.put, List.setIfInBounds_toArray, List.set_cons_zero, List.set_cons_succ]
                clear wh
                obtain ⟨wh, hwh⟩ : ∃ x, x = wg := ⟨_, rfl⟩
                subst hwh
                refine AllC.one 23 (by kernel_rfl) rfl ?_
                intro wg hg K hK
                replace hg0 := Grew.trans hg0 hg
                replace d0 := cell_up hg d0; replace d1 := cell_up hg d1; replace d2 := cell_up hg d2; replace d3 := cell_up hg d3; replace d4 := cell_up hg d4
                replace e0 := cell_up hg e0; replace e1 := cell_up hg e1; replace e2 := cell_up hg e2; replace e3 := cell_up hg e3; replace e4 := cell_up hg e4
                have hor := own_below HIw.out hg0
                have f0 := hor.frozenAt (i * 5); have f1 := hor.frozenAt (i * 5 + 1); have f2 := hor.frozenAt (i * 5 + 2); have f3 := hor.frozenAt (i * 5 + 3); have f4 := hor.frozenAt (i * 5 + 4)
                go_simp
                have hs := own_puts [.int .i64 yk, .int .u64 y1, .int .i64 y2, .int .i64 yf, .slice yA yz.length yc] (i * 5) hor hpi
                have s1 : ((((((wg.setCell ⟨g, i * 5, none⟩ (.int .i64 yk)).setCell ⟨g, i * 5 + 1, none⟩ (.int .u64 y1)).setCell ⟨g, i * 5 + 2, none⟩ (.int .i64 y2)).setCell ⟨g, i * 5 + 3, none⟩ (.int .i64 yf)).setCell ⟨g, i * 5 + 4, none⟩ (.slice yA yz.length yc))).ownsRow w.heap.size 55 5 (.slice (some ⟨g, 0, none⟩) ql.length co) ql.length (pksC (ql.set i ⟨yk, (y1, y2), yf, ⟨yA, yc, yz⟩⟩)) := by
                  rw [pksC_set _ _ _ hi]; exact hs.1
                have s2 : Ch (At g) wg ((((((wg.setCell ⟨g, i * 5, none⟩ (.int .i64 yk)).setCell ⟨g, i * 5 + 1, none⟩ (.int .u64 y1)).setCell ⟨g, i * 5 + 2, none⟩ (.int .i64 y2)).setCell ⟨g, i * 5 + 3, none⟩ (.int .i64 yf)).setCell ⟨g, i * 5 + 4, none⟩ (.slice yA yz.length yc))) := hs.2
                have s3 : Ch (At g) w1 ((((((wg.setCell ⟨g, i * 5, none⟩ (.int .i64 yk)).setCell ⟨g, i * 5 + 1, none⟩ (.int .u64 y1)).setCell ⟨g, i * 5 + 2, none⟩ (.int .i64 y2)).setCell ⟨g, i * 5 + 3, none⟩ (.int .i64 yf)).setCell ⟨g, i * 5 + 4, none⟩ (.slice yA yz.length yc))) := (Ch.of_below hg0).trans s2
                refine hK.out _ _ s3 ?_
                clear hK K hg hs s2 f0 f1 f2 f3 f4 hor hg0 d0 d1 d2 d3 d4 e0 e1 e2 e3 e4
                try simp only [Act.put, List.setIfInBounds_toArray, List.set_cons_zero, List.set_cons_succ]
                generalize (((((wg.setCell ⟨g, i * 5, none⟩ (.int .i64 yk)).setCell ⟨g, i * 5 + 1, none⟩ (.int .u64 y1)).setCell ⟨g, i * 5 + 2, none⟩ (.int .i64 y2)).setCell ⟨g, i * 5 + 3, none⟩ (.int .i64 yf)).setCell ⟨g, i * 5 + 4, none⟩ (.slice yA yz.length yc)) = ws at *
                clear wg wh
                refine AllC.tail 24 (by rfl) (by kernel_rfl) ?_
                intro wt hwt
                simp only [List.drop_succ_cons, List.drop_zero]
                replace s3 := s3.next hwt
                replace s1 := own_below s1 hwt
                have s1' : wt.ownsRow w.heap.size 55 5 (.slice (some ⟨g, 0, none⟩) (ql.set i ⟨yk, (y1, y2), yf, ⟨yA, yc, yz⟩⟩).length co) (ql.set i ⟨yk, (y1, y2), yf, ⟨yA, yc, yz⟩⟩).length (pksC (ql.set i ⟨yk, (y1, y2), yf, ⟨yA, yc, yz⟩⟩)) := by rw [List.length_set]; exact s1
                obtain ⟨d0, d1, d2, d3, d4⟩ := pks_lit (own_row s1') (k := o) (by rw [List.length_set]; exact ho)
                have f0 := s1.frozenAt (o * 5); have f1 := s1.frozenAt (o * 5 + 1); have f2 := s1.frozenAt (o * 5 + 2); have f3 := s1.frozenAt (o * 5 + 3); have f4 := s1.frozenAt (o * 5 + 4)
                have hs := own_puts [.int .i64 xk, .int .u64 x1, .int .i64 x2, .int .i64 xf, .slice xA xz.length xc] (o * 5) s1 (by rw [pksC_len, List.length_set]; simp only [List.length_cons, List.length_nil]; omega)
                have t1 : ((((((wt.setCell ⟨g, o * 5, none⟩ (.int .i64 xk)).setCell ⟨g, o * 5 + 1, none⟩ (.int .u64 x1)).setCell ⟨g, o * 5 + 2, none⟩ (.int .i64 x2)).setCell ⟨g, o * 5 + 3, none⟩ (.int .i64 xf)).setCell ⟨g, o * 5 + 4, none⟩ (.slice xA xz.length xc))).ownsRow w.heap.size 55 5 (.slice (some ⟨g, 0, none⟩) ql.length co) ql.length (pksC ((ql.set i ⟨yk, (y1, y2), yf, ⟨yA, yc, yz⟩⟩).set o ⟨xk, (x1, x2), xf, ⟨xA, xc, xz⟩⟩)) := by
                  rw [pksC_set _ _ _ (by rw [List.length_set]; exact ho)]; exact hs.1
                have t2 : Ch (At g) w1 ((((((wt.setCell ⟨g, o * 5, none⟩ (.int .i64 xk)).setCell ⟨g, o * 5 + 1, none⟩ (.int .u64 x1)).setCell ⟨g, o * 5 + 2, none⟩ (.int .i64 x2)).setCell ⟨g, o * 5 + 3, none⟩ (.int .i64 xf)).setCell ⟨g, o * 5 + 4, none⟩ (.slice xA xz.length xc))) := s3.trans hs.2
                have HL := Lib.hid (HT.out ((((((wt.setCell ⟨g, o * 5, none⟩ (.int .i64 xk)).setCell ⟨g, o * 5 + 1, none⟩ (.int .u64 x1)).setCell ⟨g, o * 5 + 2, none⟩ (.int .i64 x2)).setCell ⟨g, o * 5 + 3, none⟩ (.int .i64 xf)).setCell ⟨g, o * 5 + 4, none⟩ (.slice xA xz.length xc))) ((ql.set i ⟨yk, (y1, y2), yf, ⟨yA, yc, yz⟩⟩).set o ⟨xk, (x1, x2), xf, ⟨xA, xc, xz⟩⟩) (some ⟨g, 0, none⟩) co (by rw [strike_swap (by rw [List.length_map]; exact hi) (by rw [List.length_map]; exact ho) Hhb.out, List.map_set, List.map_set, List.getElem_map, List.getElem_map, hx, hy])
                  ⟨by simp only [List.length_set]; exact t1, fun z hz => (HI.out.bt z (by have h9 := (List.set_set_perm hi ho).mem_iff.1 (by rw [hx, hy]; exact hz); exact h9)).ch t2 HSZ.out (fun q hq => by have h9 : q = g := hq; subst h9; exact own_lt HI.out.row q rfl) (nb_at HI.out.row)⟩
                  (Below.trans (B := w.heap.size) HB.out (t2.below HSZ.out (fun q hq => by have h9 : q = g := hq; subst h9; exact own_lt HI.out.row q rfl))))
                clear hs t1 t2 s1 s1' s3 hwt HT HI HB b0 b1 b2 HIw
                go_wp2_with fail
                go_roundw
                case rel => exact ⟨k + 1, (ql.set i ⟨yk, (y1, y2), yf, ⟨yA, yc, yz⟩⟩).set o ⟨xk, (x1, x2), xf, ⟨xA, xc, xz⟩⟩, some ⟨g, 0, none⟩, co, by omega, by go_num, by simp only [List.length_set], HL⟩
                case measure => simp [intOf]; omega
              · refine ⟨_, rfl, fun K hK => ?_⟩
                have hg0 : Grew w1 wg := (grew_drew _).trans hg
                replace d0 := cell_up hg0 d0; replace d1 := cell_up hg0 d1; replace d2 := cell_up hg0 d2; replace d3 := cell_up hg0 d3; replace d4 := cell_up hg0 d4
                replace e0 := cell_up hg0 e0; replace e1 := cell_up hg0 e1; replace e2 := cell_up hg0 e2; replace e3 := cell_up hg0 e3; replace e4 := cell_up hg0 e4
                go_simp
                refine hK.out _ _ (hc0.next hg) ?_
                clear hK K hg
                try simp only [Act.put, List.setIfInBounds_toArray, List.set_cons_zero, List.set_cons_succ]
                obtain ⟨wh, hwh⟩ : ∃ x, x = wg := ⟨_, rfl⟩
                subst hwh
                refine AllC.one 16 (by kernel_rfl) rfl ?_
                intro wg hg K hK
                replace hg0 := Grew.trans hg0 hg
                replace d0 := cell_up hg d0; replace d1 := cell_up hg d1; replace d2 := cell_up hg d2; replace d3 := cell_up hg d3; replace d4 := cell_up hg d4
                replace e0 := cell_up hg e0; replace e1 := cell_up hg e1; replace e2 := cell_up hg e2; replace e3 := cell_up hg e3; replace e4 := cell_up hg e4
                go_simp
                refine hK.out _ _ (Ch.of_below hg0) ?_
                clear hK K hg
                try simp only [Act.put, List.setIfInBounds_toArray, List.set_cons_zero, List.set_cons_succ]
                clear wh
                obtain ⟨wh, hwh⟩ : ∃ x, x = wg := ⟨_, rfl⟩
                subst hwh
                refine AllC.one 22 (by kernel_rfl) rfl ?_
                intro wg hg K hK
                replace hg0 := Grew.trans hg0 hg
                replace d0 := cell_up hg d0; replace d1 := cell_up hg d1; replace d2 := cell_up hg d2; replace d3 := cell_up hg d3; replace d4 := cell_up hg d4
                replace e0 := cell_up hg e0; replace e1 := cell_up hg e1; replace e2 := cell_up hg e2; replace e3 := cell_up hg e3; replace e4 := cell_up hg e4
                go_simp
                refine hK.out _ _ (Ch.of_below hg0) ?_
                clear hK K hg
                try simp only [Act.put, List.setIfInBounds_toArray, List.set_cons_zero, List.set_cons_succ]
                clear wh
                obtain ⟨wh, hwh⟩ : ∃ x, x = wg := ⟨_, rfl⟩
                subst hwh
                refine AllC.one 23 (by kernel_rfl) rfl ?_
                intro wg hg K hK
                replace hg0 := Grew.trans hg0 hg
                replace d0 := cell_up hg d0; replace d1 := cell_up hg d1; replace d2 := cell_up hg d2; replace d3 := cell_up hg d3; replace d4 := cell_up hg d4
                replace e0 := cell_up hg e0; replace e1 := cell_up hg e1; replace e2 := cell_up hg e2; replace e3 := cell_up hg e3; replace e4 := cell_up hg e4
                have hor := own_below HIw.out hg0
                have f0 := hor.frozenAt (i * 5); have f1 := hor.frozenAt (i * 5 + 1); have f2 := hor.frozenAt (i * 5 + 2); have f3 := hor.frozenAt (i * 5 + 3); have f4 := hor.frozenAt (i * 5 + 4)
                go_simp
                have hs := own_puts [.int .i64 yk, .int .u64 y1, .int .i64 y2, .int .i64 yf, .slice yA yz.length yc] (i * 5) hor hpi
                have s1 : ((((((wg.setCell ⟨g, i * 5, none⟩ (.int .i64 yk)).setCell ⟨g, i * 5 + 1, none⟩ (.int .u64 y1)).setCell ⟨g, i * 5 + 2, none⟩ (.int .i64 y2)).setCell ⟨g, i * 5 + 3, none⟩ (.int .i64 yf)).setCell ⟨g, i * 5 + 4, none⟩ (.slice yA yz.length yc))).ownsRow w.heap.size 55 5 (.slice (some ⟨g, 0, none⟩) ql.length co) ql.length (pksC (ql.set i ⟨yk, (y1, y2), yf, ⟨yA, yc, yz⟩⟩)) := by
                  rw [pksC_set _ _ _ hi]; exact hs.1
                have s2 : Ch (At g) wg ((((((wg.setCell ⟨g, i * 5, none⟩ (.int .i64 yk)).setCell ⟨g, i * 5 + 1, none⟩ (.int .u64 y1)).setCell ⟨g, i * 5 + 2, none⟩ (.int .i64 y2)).setCell ⟨g, i * 5 + 3, none⟩ (.int .i64 yf)).setCell ⟨g, i * 5 + 4, none⟩ (.slice yA yz.length yc))) := hs.2
                have s3 : Ch (At g) w1 ((((((wg.setCell ⟨g, i * 5, none⟩ (.int .i64 yk)).setCell ⟨g, i * 5 + 1, none⟩ (.int .u64 y1)).setCell ⟨g, i * 5 + 2, none⟩ (.int .i64 y2)).setCell ⟨g, i * 5 + 3, none⟩ (.int .i64 yf)).setCell ⟨g, i * 5 + 4, none⟩ (.slice yA yz.length yc))) := (Ch.of_below hg0).trans s2
                refine hK.out _ _ s3 ?_
                clear hK K hg hs s2 f0 f1 f2 f3 f4 hor hg0 d0 d1 d2 d3 d4 e0 e1 e2 e3 e4
                try simp only [Act.put, List.setIfInBounds_toArray, List.set_cons_zero, List.set_cons_succ]
                generalize (((((wg.setCell ⟨g, i * 5, none⟩ (.int .i64 yk)).setCell ⟨g, i * 5 + 1, none⟩ (.int .u64 y1)).setCell ⟨g, i * 5 + 2, none⟩ (.int .i64 y2)).setCell ⟨g, i * 5 + 3, none⟩ (.int .i64 yf)).setCell ⟨g, i * 5 + 4, none⟩ (.slice yA yz.length yc)) = ws at *
                clear wg wh
                refine AllC.tail 24 (by rfl) (by kernel_rfl) ?_
                intro wt hwt
                simp only [List.drop_succ_cons, List.drop_zero]
                replace s3 := s3.next hwt
                replace s1 := own_below s1 hwt
                have s1' : wt.ownsRow w.heap.size 55 5 (.slice (some ⟨g, 0, none⟩) (ql.set i ⟨yk, (y1, y2), yf, ⟨yA, yc, yz⟩⟩).length co) (ql.set i ⟨yk, (y1, y2), yf, ⟨yA, yc, yz⟩⟩).length (pksC (ql.set i ⟨yk, (y1, y2), yf, ⟨yA, yc, yz⟩⟩)) := by rw [List.length_set]; exact s1
                obtain ⟨d0, d1, d2, d3, d4⟩ := pks_lit (own_row s1') (k := o) (by rw [List.length_set]; exact ho)
                have f0 := s1.frozenAt (o * 5); have f1 := s1.frozenAt (o * 5 + 1); have f2 := s1.frozenAt (o * 5 + 2); have f3 := s1.frozenAt (o * 5 + 3); have f4 := s1.frozenAt (o * 5 + 4)
                have hs := own_puts [.int .i64 xk, .int .u64 x1, .int .i64 x2, .int .i64 xf, .slice xA xz.length xc] (o * 5) s1 (by rw [pksC_len, List.length_set]; simp only [List.length_cons, List.length_nil]; omega)
                have t1 : ((((((wt.setCell ⟨g, o * 5, none⟩ (.int .i64 xk)).setCell ⟨g, o * 5 + 1, none⟩ (.int .u64 x1)).setCell ⟨g, o * 5 + 2, none⟩ (.int .i64 x2)).setCell ⟨g, o * 5 + 3, none⟩ (.int .i64 xf)).setCell ⟨g, o * 5 + 4, none⟩ (.slice xA xz.length xc))).ownsRow w.heap.size 55 5 (.slice (some ⟨g, 0, none⟩) ql.length co) ql.length (pksC ((ql.set i ⟨yk, (y1, y2), yf, ⟨yA, yc, yz⟩⟩).set o ⟨xk, (x1, x2), xf, ⟨xA, xc, xz⟩⟩)) := by
                  rw [pksC_set _ _ _ (by rw [List.length_set]; exact ho)]; exact hs.1
                have t2 : Ch (At g) w1 ((((((wt.setCell ⟨g, o * 5, none⟩ (.int .i64 xk)).setCell ⟨g, o * 5 + 1, none⟩ (.int .u64 x1)).setCell ⟨g, o * 5 + 2, none⟩ (.int .i64 x2)).setCell ⟨g, o * 5 + 3, none⟩ (.int .i64 xf)).setCell ⟨g, o * 5 + 4, none⟩ (.slice xA xz.length xc))) := s3.trans hs.2
                have HL := Lib.hid (HT.out ((((((wt.setCell ⟨g, o * 5, none⟩ (.int .i64 xk)).setCell ⟨g, o * 5 + 1, none⟩ (.int .u64 x1)).setCell ⟨g, o * 5 + 2, none⟩ (.int .i64 x2)).setCell ⟨g, o * 5 + 3, none⟩ (.int .i64 xf)).setCell ⟨g, o * 5 + 4, none⟩ (.slice xA xz.length xc))) ((ql.set i ⟨yk, (y1, y2), yf, ⟨yA, yc, yz⟩⟩).set o ⟨xk, (x1, x2), xf, ⟨xA, xc, xz⟩⟩) (some ⟨g, 0, none⟩) co (by rw [strike_swap (by rw [List.length_map]; exact hi) (by rw [List.length_map]; exact ho) Hhb.out, List.map_set, List.map_set, List.getElem_map, List.getElem_map, hx, hy])
                  ⟨by simp only [List.length_set]; exact t1, fun z hz => (HI.out.bt z (by have h9 := (List.set_set_perm hi ho).mem_iff.1 (by rw [hx, hy]; exact hz); exact h9)).ch t2 HSZ.out (fun q hq => by have h9 : q = g := hq; subst h9; exact own_lt HI.out.row q rfl) (nb_at HI.out.row)⟩
                  (Below.trans (B := w.heap.size) HB.out (t2.below HSZ.out (fun q hq => by have h9 : q = g := hq; subst h9; exact own_lt HI.out.row q rfl))))
                clear hs t1 t2 s1 s1' s3 hwt HT HI HB b0 b1 b2 HIw
                go_wp2_with fail
                go_roundw
                case rel => exact ⟨k + 1, (ql.set i ⟨yk, (y1, y2), yf, ⟨yA, yc, yz⟩⟩).set o ⟨xk, (x1, x2), xf, ⟨xA, xc, xz⟩⟩, some ⟨g, 0, none⟩, co, by omega, by go_num, by simp only [List.length_set], HL⟩
                case measure => simp [intOf]; omega
            · have hd2 : decide (fb < (ql.length : Int) - (i : Int)) = false := by simp [hn2]
              have HL := Lib.hid (HT.out (wr.alloc (.cells #[.int .i64 3, .int .i64 i, .int .i64 fb] 93)) ql (some ⟨g, 0, none⟩) co (by rw [strike_swap_no (by rw [List.length_map]; exact hi) (by rw [List.length_map]; omega)]) HI.out HB.out)
              clear HT HI HB
              go_wp2_with fail
              go_roundw
              case rel => exact ⟨k + 1, ql, some ⟨g, 0, none⟩, co, by omega, by go_num, rfl, HL⟩
              case measure => simp [intOf]; omega
          · have hd1 : decide (-(i : Int) ≤ fb) = false := by simp [hn1]
            have HL := Lib.hid (HT.out (wr.alloc (.cells #[.int .i64 3, .int .i64 i, .int .i64 fb] 93)) ql (some ⟨g, 0, none⟩) co (by rw [strike_swap_no (by rw [List.length_map]; exact hi) (by rw [List.length_map]; omega)]) HI.out HB.out)
            clear HT HI HB
            go_wp2_with fail
            go_roundw
            case rel => exact ⟨k + 1, ql, some ⟨g, 0, none⟩, co, by omega, by go_num, rfl, HL⟩
            case measure => simp [intOf]; omega
        · have HF2 := Lib.hid HOKf.out.2.2.2
          simp only at HF2
          clear HOKf
          by_cases hv : 0 ≤ fb ∧ fb / 8 < (ql[i].p.zs.length : Int)
          · obtain ⟨n, rfl⟩ : ∃ n : Nat, fb = n := ⟨fb.toNat, by omega⟩
            have hn : n / 8 < ql[i].p.zs.length := by have := hv.2; omega
            clear hv
            have hS := Lib.hid (strike_flip (l := ql.map Pk.z) (i := i) (n := n) (by rw [List.length_map]; exact hi) (by rw [List.getElem_map]; exact hn))
            have hxm := List.getElem_mem hi
            obtain ⟨d0', d1', d2', d3, d4⟩ := pks_lit (own_row HI.out.row) hi
            clear d0' d1' d2' d3
            have HBX := Lib.hid ((HI.out.bt _ hxm).row HSZ.out)
            have HZZ := Lib.hid (HZ.out _ hxm)
            clear HZ hxm
            generalize hx : ql[i] = x at *
            obtain ⟨xk, xid, xf, ⟨bA, bc, zs⟩⟩ := x
            simp only at hn d4
            obtain ⟨q, hq⟩ : ∃ q, q = n / 8 := ⟨_, rfl⟩
            obtain ⟨r, hr⟩ : ∃ r, r = n % 8 := ⟨_, rfl⟩
            have hqI : (n : Int) / 8 = (q : Int) := by rw [hq]; exact quo8 n
            have HRI : Hid ((n : Int).tmod 8 = (r : Int)) := Lib.hid (by rw [hr]; exact rem8 n)
            clear HF2
            rw [← hq] at hn
            have HX := Lib.hid hx
            have HN := Lib.hid hn
            have hn2 : (q : Int) < (zs.length : Int) := Int.ofNat_lt.2 hn
            have hn3 : decide ((q : Int) < (zs.length : Int)) = true := decide_eq_true hn2
            have hn0 : (0 : Int) ≤ (n : Int) := Int.natCast_nonneg n
            have hwr : wrap64 (q : Int) = (q : Int) := wrap_q HZZ.out hn
            have hrq : (0 : Int) ≤ (r : Int) := Int.natCast_nonneg r
            have hqq : (0 : Int) ≤ (q : Int) := Int.natCast_nonneg q
            have H8 : Hid (r < 8) := Lib.hid (by rw [hr]; exact Nat.mod_lt _ (by decide))
            have HFL : Hid (flipZ zs n = zs.set q (bits .xor .u8 (zs.getD q 0) ((2 : Int) ^ r % 256))) := Lib.hid (by unfold flipZ flipV; rw [← hq, ← hr])
            have HB1 := Lib.hid b1
            clear hq hr hx hn
            go_wp2_with fail
            generalize (wr.alloc (.cells #[.int .i64 4, .int .i64 i, .int .i64 n] 93)) = w1 at *
            refine wp_region_g 15 (by kernel_rfl) ?_
            refine AllC.head 0 15 (fuel := 1) (by first | exact fun h k => Grew.trans h k | exact fun h k => cls_grew h k) (grew_drew _) (by rfl) (by kernel_rfl) ?_
            simp only [List.take_succ_cons, List.take_zero, List.drop_succ_cons, List.drop_zero]
            repeat (first
              | (refine HeadC.val (by rfl) ?_
                 apply Exists.intro
                 refine ⟨fun w' hw' => ?_, ?_⟩
                 · (have hf_0 := cell_up hw' b1; have hf_1 := cell_up hw' b2; have hf_2 := cell_up hw' d4; (go_simp) <;> (try go_ints) <;> with_reducible rfl)
                 try simp only [Act.put, List.setIfInBounds_toArray, List.set_cons_zero, List.set_cons_succ])
              | (refine HeadC.shut (by rfl) ?_
                 try simp only [Act.put, List.setIfInBounds_toArray, List.set_cons_zero, List.set_cons_succ]))
            refine HeadC.nil ?_
            refine AllC.tail 15 (by rfl) (by kernel_rfl) ?_
            intro wt hwt
            simp only [List.drop_succ_cons, List.drop_zero]
            have HGT : Hid (Grew w1 wt) := Lib.hid ((grew_drew _).trans hwt)
            have b1t := cell_up HGT.out b1
            have b2t := cell_up HGT.out b2
            have d4t := cell_up HGT.out d4
            have HSZt := Lib.hid (Nat.le_trans HSZ.out HGT.out.size)
            have HBt := Lib.hid (HBX.out.below HGT.out (Nat.le_refl _) |>.more HGT.out.size)
            clear hwt
            go_wp2_with (at_builtin; refine wpList_append_row rfl (.const (.slice none 0 0)) (.tmp 124) rfl w.heap.size elem_u8 (by rfl) (World.ownsRow_nil _ _ _ _) _ (by rfl) (by simp) HBt.out (ones_u8 zs) (app_m HZZ.out) (app_b HZZ.out) HSZt.out ?_; intro A5 c5 w5 hown5 hg5 hv5)
            rw [List.nil_append, Nat.zero_add] at hown5
            rw [Nat.zero_add] at hv5
            obtain ⟨gb, rfl, hgb1, hgb2⟩ := own_some hown5 (Nat.lt_of_le_of_lt (Nat.zero_le _) HN.out)
            have hG5 : Grew w1 w5 := HGT.out.trans (grew_one hg5)
            have HGB : Hid (w1.heap.size ≤ gb) := Lib.hid (Nat.le_trans HGT.out.size (Nat.le_of_eq (new_block hv5).symm))
            clear hv5 hg5 b1t b2t d4t HBt HSZt HGT hgb1 hgb2
            have hzc : w5.cell? ⟨gb, q, none⟩ = some (.int .u8 (zs.getD q 0)) := by
              rw [hown5.cellAt _ (by simpa using HN.out), List.getElem?_map, List.getD_eq_getElem?_getD, List.getElem?_eq_getElem HN.out]; rfl
            generalize zs.getD q 0 = zq at *
            have HG5 := Lib.hid hG5
            have HO5 := Lib.hid hown5
            replace b1 := cell_up hG5 b1
            replace b2 := cell_up hG5 b2
            have hrI := HRI.out
            have hm8 : min r 8 = r := Nat.min_eq_left (Nat.le_of_lt H8.out)
            clear hG5 d4 hown5 hn3
            try rw [Nat.zero_add]
            clear wt
            go_wp2_with fail
            refine wp_region_g 11 (by kernel_rfl) ?_
            refine AllC.head 0 11 (fuel := 2) (by first | exact fun h k => Grew.trans h k | exact fun h k => cls_grew h k) (grew_drew _) (by rfl) (by kernel_rfl) ?_
            simp only [List.take_succ_cons, List.take_zero, List.drop_succ_cons, List.drop_zero]
            repeat (first
              | (refine HeadC.val (by rfl) ?_
                 apply Exists.intro
                 refine ⟨fun w' hw' => ?_, ?_⟩
                 · (have hf_0 := cell_up hw' b1; have hf_1 := cell_up hw' b2; have hf_2 := cell_up hw' hzc; (go_simp) <;> (try go_ints) <;> with_reducible rfl)
                 try simp only [Act.put, List.setIfInBounds_toArray, List.set_cons_zero, List.set_cons_succ])
              | (refine HeadC.shut (by rfl) ?_
                 try simp only [Act.put, List.setIfInBounds_toArray, List.set_cons_zero, List.set_cons_succ]))
            refine HeadC.nil ?_
            refine AllC.tail 11 (by rfl) (by kernel_rfl) ?_
            intro wt hwt
            simp only [List.drop_succ_cons, List.drop_zero]
            have hgt : Grew w5 wt := (grew_drew _).trans hwt
            have hown6 := own_below HO5.out hgt
            have hfz := hown6.frozenAt q
            obtain ⟨hG7, hI7, hr8, hb8⟩ := refCarry_flip HI.out HSZ.out hi HX.out (HG5.out.trans hgt) HGB.out hown6 _ HFL.out
            have b1g := cell_up hG7 HB1.out
            have hf7 := hI7.row.frozenAt (i * 5 + 4)
            have hzc' := cell_up hgt hzc
            obtain ⟨d0', d1', d2', d3', d4g⟩ := pks_lit (own_row hI7.row) hi
            rw [HX.out] at d4g
            clear d0' d1' d2' d3'
            have HL := Lib.hid (HT.out _ _ (some ⟨g, 0, none⟩) co (by rw [hS.out, List.map_set, List.getElem_map, HX.out]; rfl) hr8 (Below.trans (B := w.heap.size) HB.out hb8))
            clear hG7 hI7 hr8 hb8 hwt hgt hown6 HT HI HB HFL HBX HO5 HG5 HGB b1 b2 hzc hrI
            go_wp2_with fail
            go_roundw
            case rel => exact ⟨k + 1, ql.set i ⟨xk, xid, xf, ⟨some ⟨gb, 0, none⟩, c5, flipZ zs n⟩⟩, some ⟨g, 0, none⟩, co, by omega, by go_num, by simp only [List.length_set], HL⟩
            case measure => simp [intOf]; omega
          · have HN := Lib.hid hv
            by_cases hn0 : 0 ≤ fb
            · obtain ⟨n, rfl⟩ : ∃ n : Nat, fb = n := ⟨fb.toNat, by omega⟩
              have hn2 : ¬ ((n : Int) / 8 < (ql[i].p.zs.length : Int)) := fun h => hv ⟨hn0, h⟩
              have hn3 : decide ((n : Int) / 8 < (ql[i].p.zs.length : Int)) = false := by simp [hn2]
              have hwr : wrap64 ((n : Int) / 8) = (n : Int) / 8 := wrap_n8 HF2.out
              have HL := Lib.hid (HT.out (wr.alloc (.cells #[.int .i64 4, .int .i64 i, .int .i64 n] 93)) ql (some ⟨g, 0, none⟩) co (by rw [strike_flip_no (by rw [List.length_map]; exact hi) (by rw [List.getElem_map]; exact HN.out)]) HI.out HB.out)
              obtain ⟨d0, d1', d2', d3, d4⟩ := pks_lit (own_row HI.out.row) hi
              clear hv HT HI HB HN d0 d1' d2' d3
              generalize ql[i].p.zs.length = zl at *
              generalize ql[i].p.A = pA at *
              generalize ql[i].p.cap = pc at *
              go_wp2_with fail
              go_quiet (fail)
              try go_wp2
              go_roundw
              case rel => exact ⟨k + 1, ql, some ⟨g, 0, none⟩, co, by omega, by go_num, rfl, Lib.hid (CrS.of HL.out (grew_drawn ⟨_, rfl⟩))⟩
              case measure => simp [intOf]; omega
            · have h1 : decide (0 ≤ fb) = false := by simp [hn0]
              have HL := Lib.hid (HT.out (wr.alloc (.cells #[.int .i64 4, .int .i64 i, .int .i64 fb] 93)) ql (some ⟨g, 0, none⟩) co (by rw [strike_flip_no (by rw [List.length_map]; exact hi) (by rw [List.getElem_map]; exact HN.out)]) HI.out HB.out)
              clear hv HT HI HB HN
              go_wp2_with fail
              go_quiet (fail)
              try go_wp2
              go_roundw
              case rel => exact ⟨k + 1, ql, some ⟨g, 0, none⟩, co, by omega, by go_num, rfl, Lib.hid (CrS.of HL.out (grew_drawn ⟨_, rfl⟩))⟩
              case measure => simp [intOf]; omega
        · have HL := Lib.hid (HT.out (wr.alloc (.cells #[.int .i64 fk, .int .i64 i, .int .i64 fb] 93)) ql (some ⟨g, 0, none⟩) co (by rw [strike_none k1 k2 k3 k4]) HI.out HB.out)
          clear HT HI HB
          go_wp2_with fail
          go_roundw
          case rel => exact ⟨k + 1, ql, some ⟨g, 0, none⟩, co, by omega, by go_num, rfl, HL⟩
          case measure => simp [intOf]; omega
      · clear HS
        have HL := Lib.hid (HT.out (wr.alloc (.cells #[.int .i64 fk, .int .i64 fa, .int .i64 fb] 93)) ql Ao co (by rw [strike_no (by rw [List.length_map]; exact hin)]) HI.out HB.out)
        clear HT HI HB
        by_cases h0 : fa < 0
        · clear hin
          go_wp2_with fail
          go_roundw
          case rel => exact ⟨k + 1, ql, Ao, co, by omega, by go_num, rfl, HL⟩
          case measure => simp [intOf]; omega
        · have h1 : (ql.length : Int) ≤ fa := by omega
          clear hin
          go_wp2_with fail
          go_roundw
          case rel => exact ⟨k + 1, ql, Ao, co, by omega, by go_num, rfl, HL⟩
          case measure => simp [intOf]; omega
    · obtain rfl : k = fs.length := by omega
      go_wp2_with fail
      go_ret
      obtain ⟨h1, h2, h3, _⟩ := HS.out
      rw [List.take_length] at h1
      exact ⟨Ao, co, ql, rfl, h1, h2, h3⟩
end Go.Proofs.Ytpoiejgoongllaa
