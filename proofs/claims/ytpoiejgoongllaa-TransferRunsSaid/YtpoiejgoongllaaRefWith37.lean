/-
  stockyardref37.with.
-/
import Derived.Test.YtpoiejgoongllaaRecv37a
import Derived.Test.YtpoiejgoongllaaKnown25
namespace Go.Proofs.Ytpoiejgoongllaa
set_option linter.unusedVariables false
set_option linter.unusedSimpArgs false
set_option linter.unnecessarySimpa false
open Go.RowKit
attribute [local go_sem ↓] Go.wp_at_zero Go.wp_at_succ

/-- the first chunk with an ID whose bytes have it -/
def withP (l : List ChZ) (x : IdZ) : Option Part := (l.find? fun c => decide (c.id = x ∧ idOf c.p.zs = x)).map ChZ.p
def withV (l : List ChZ) (x : IdZ) : Value := match withP l x with | some p => p.v | none => .slice none 0 0
theorem withP_at {l : List ChZ} {x : IdZ} {k : Nat} (h : withP (l.take k) x = none) (hk : k < l.length) (e : l[k].id = x ∧ idOf l[k].p.zs = x) : withP l x = some l[k].p := by
  unfold withP at h ⊢
  rw [Option.map_eq_none_iff] at h
  conv => lhs; rw [← List.take_append_drop k l, List.drop_eq_getElem_cons hk]
  rw [List.find?_append, h, Option.none_or, List.find?_cons, decide_eq_true e]
  rfl
theorem withP_next {l : List ChZ} {x : IdZ} {k : Nat} (h : withP (l.take k) x = none) (hk : k < l.length) (e : ¬ (l[k].id = x ∧ idOf l[k].p.zs = x)) : withP (l.take (k + 1)) x = none := by
  unfold withP at h ⊢
  rw [Option.map_eq_none_iff] at h ⊢
  rw [List.take_succ_eq_append_getElem hk, List.find?_append, h, Option.none_or, List.find?_cons, decide_eq_false e]
  rfl
theorem with_yes {l : List ChZ} {x : IdZ} {p : Part} (h : withP l x = some p) : Ending.returned (.tuple #[.slice p.A p.zs.length p.cap, .bool true]) = Ending.returned (.tuple #[withV l x, .bool (withP l x).isSome]) := by unfold withV; rw [h]; rfl
theorem with_no {l : List ChZ} {x : IdZ} (h : withP l x = none) : Ending.returned (.tuple #[.slice none 0 0, .bool false]) = Ending.returned (.tuple #[withV l x, .bool (withP l x).isSome]) := by unfold withV; rw [h]; rfl

set_option maxRecDepth 100000 in
set_option maxHeartbeats 2000000 in
theorem with37_any (L : Option Addr) (lc : Nat) (l : List ChZ) (x : IdZ) (w : World) (hr : Row w w.heap.size L (chsC l)) (hp : LieC w w.heap.size l) (hok : ∀ c ∈ l, Byt c.p.zs ∧ c.p.zs.length ≤ 9223372036854775807) (hm : l.length ≤ 4611686018427387904) :
    Calls Try.prog 63 #[.slice L l.length lc, .agg #[.int .u64 x.1, .int .i64 x.2]] w fun e w' => e = .returned (.tuple #[withV l x, .bool (withP l x).isSome]) ∧ Grew w w' := by
  obtain ⟨xs, xn⟩ := x
  have Hok := Lib.hid hok
  have g0 := grew_alloc w (.cells #[.int .u64 xs, .int .i64 xn] 53)
  have hX := Blk.new w 53 #[.int .u64 xs, .int .i64 xn]
  have HR := Lib.hid ((hr.up g0 (Nat.le_refl _)).more g0.size)
  have HP := Lib.hid (fun c hc => ((hp c hc).up g0 (Nat.le_refl _)).more g0.size)
  have x0 := (hX.cell 0).trans (show _ = some (.int .u64 xs) from rfl)
  have x1 := (hX.cell 1).trans (show _ = some (.int .i64 xn) from rfl)
  have HG0 := Lib.hid g0
  clear hok hr hp g0 hX
  go_enter Try.func63, Try.ntmps63
  go_wp2_with fail
  generalize w.alloc (.cells #[.int .u64 xs, .int .i64 xn] 53) = w1 at *
  generalize w.heap.size = gc at *
  go_loopw [6] (fun i wr => ∃ k : Nat, k ≤ l.length ∧ i = .int .i64 k ∧ Hid (withP (l.take k) (xs, xn) = none) ∧ Hid (Grew w1 wr)) (fun i _ => l.length - (intOf i).toNat)
  case atStart => exact ⟨0, Nat.zero_le _, rfl, Lib.hid (by simp [withP]), Lib.hid (Grew.refl _)⟩
  case round =>
    obtain ⟨k, hk, rfl, HN, HD⟩ := hrel
    by_cases hlt : k < l.length
    · obtain ⟨ad, rfl, _, d0, d1, d2⟩ := chs_at (HR.out.up HD.out (Nat.le_refl _)) hlt
      have z0 := cell_up HD.out x0
      have z1 := cell_up HD.out x1
      have HA := Lib.hid (fun e => withP_at (x := (xs, xn)) HN.out hlt e)
      have HX := Lib.hid (fun e => withP_next (x := (xs, xn)) HN.out hlt e)
      obtain ⟨hcb, hcl⟩ := Hok.out _ (List.getElem_mem hlt)
      have hrow := ((HP.out _ (List.getElem_mem hlt)).up HD.out (Nat.le_refl _)).more HD.out.size
      clear HN
      generalize l[k] = c at *
      obtain ⟨⟨y1, y2⟩, ⟨pA, pc, ys⟩⟩ := c
      simp only at d0 d1 d2 hcb hcl hrow HA HX
      have HOf := Lib.hid (fun W (h : Grew wr W) => refOf_any pA pc wr.heap.size ys W (hrow.up h (Nat.le_refl _)) h.size hcb hcl)
      clear hcb hcl hrow
      by_cases he : ((y1, y2) : IdZ) = (xs, xn)
      · by_cases hi : idOf ys = (xs, xn)
        · have HF := Lib.hid (HA.out ⟨he, hi⟩)
          clear HA HX
          obtain ⟨rfl, rfl⟩ := Prod.mk.inj he
          clear he
          have e0 : sumZ ys = y1 := congrArg Prod.fst hi
          have e1 : (ys.length : Int) = y2 := congrArg Prod.snd hi
          clear hi
          rw [e0, e1] at HOf
          clear e0 e1
          go_upto_region 4 with (fail)
          refine wp_region_g 16 (by kernel_rfl) ?_
          refine AllC.head 0 16 (fuel := 1) (by first | exact fun h k => Grew.trans h k | exact fun h k => cls_grew h k) (grew_drew _) (by rfl) (by kernel_rfl) ?_
          simp only [List.take_succ_cons, List.take_zero, List.drop_succ_cons, List.drop_zero]
          repeat (first
            | (refine HeadC.val (by rfl) ?_
               apply Exists.intro
               refine ⟨fun w' hw' => ?_, ?_⟩
               · (have hf_0 := cell_up hw' d0; have hf_1 := cell_up hw' d1; have hf_2 := cell_up hw' d2; have hf_3 := cell_up hw' z0; have hf_4 := cell_up hw' z1; (go_simp) <;> (try go_ints) <;> with_reducible rfl)
               try simp only [Act.put, List.setIfInBounds_toArray, List.set_cons_zero, List.set_cons_succ])
            | (refine HeadC.call (by rfl) ?_
               apply Exists.intro; apply Exists.intro
               refine ⟨fun w' hw' => ?_, ?_⟩
               · (have hf_0 := cell_up hw' d0; have hf_1 := cell_up hw' d1; have hf_2 := cell_up hw' d2; have hf_3 := cell_up hw' z0; have hf_4 := cell_up hw' z1; (go_simp) <;> first | (refine ⟨?_, ?_⟩ <;> with_reducible rfl) | with_reducible rfl)
               apply Exists.intro
               refine ⟨fun w' hw' => ?_, ?_⟩
               · (first | exact HOf.out _ hw')
               try simp only [Act.put, List.setIfInBounds_toArray, List.set_cons_zero, List.set_cons_succ])
            | (refine HeadC.shut (by rfl) ?_
               try simp only [Act.put, List.setIfInBounds_toArray, List.set_cons_zero, List.set_cons_succ]))
          refine HeadC.nil ?_
          refine AllC.tail 16 (by rfl) (by kernel_rfl) ?_
          intro wt hwt
          simp only [List.drop_succ_cons, List.drop_zero]
          have hg1 := (grew_drew wr).trans hwt
          replace d2 := cell_up hg1 d2
          have HG2 := Lib.hid (Grew.trans (Grew.trans HG0.out HD.out) hg1)
          clear hwt hg1 z0 z1 d0 d1
          go_wp2_with fail
          go_ret2
          exact ⟨with_yes HF.out, HG2.out⟩
        · have HN2 := Lib.hid (HX.out (fun h => hi h.2))
          clear HA HX
          obtain ⟨rfl, rfl⟩ := Prod.mk.inj he
          clear he
          rcases id_ne hi with hne | ⟨h0, hne⟩
          · clear hi
            go_upto_region 4 with (fail)
            refine wp_region_g 16 (by kernel_rfl) ?_
            refine AllC.head 0 16 (fuel := 1) (by first | exact fun h k => Grew.trans h k | exact fun h k => cls_grew h k) (grew_drew _) (by rfl) (by kernel_rfl) ?_
            simp only [List.take_succ_cons, List.take_zero, List.drop_succ_cons, List.drop_zero]
            repeat (first
              | (refine HeadC.val (by rfl) ?_
                 apply Exists.intro
                 refine ⟨fun w' hw' => ?_, ?_⟩
                 · (have hf_0 := cell_up hw' d0; have hf_1 := cell_up hw' d1; have hf_2 := cell_up hw' d2; have hf_3 := cell_up hw' z0; have hf_4 := cell_up hw' z1; (go_simp) <;> (try go_ints) <;> with_reducible rfl)
                 try simp only [Act.put, List.setIfInBounds_toArray, List.set_cons_zero, List.set_cons_succ])
              | (refine HeadC.call (by rfl) ?_
                 apply Exists.intro; apply Exists.intro
                 refine ⟨fun w' hw' => ?_, ?_⟩
                 · (have hf_0 := cell_up hw' d0; have hf_1 := cell_up hw' d1; have hf_2 := cell_up hw' d2; have hf_3 := cell_up hw' z0; have hf_4 := cell_up hw' z1; (go_simp) <;> first | (refine ⟨?_, ?_⟩ <;> with_reducible rfl) | with_reducible rfl)
                 apply Exists.intro
                 refine ⟨fun w' hw' => ?_, ?_⟩
                 · (first | exact HOf.out _ hw')
                 try simp only [Act.put, List.setIfInBounds_toArray, List.set_cons_zero, List.set_cons_succ])
              | (refine HeadC.shut (by rfl) ?_
                 try simp only [Act.put, List.setIfInBounds_toArray, List.set_cons_zero, List.set_cons_succ]))
            refine HeadC.nil ?_
            refine AllC.tail 16 (by rfl) (by kernel_rfl) ?_
            intro wt hwt
            simp only [List.drop_succ_cons, List.drop_zero]
            have HD2 := Lib.hid (Grew.trans HD.out ((grew_drew wr).trans hwt))
            clear hwt z0 z1 d0 d1 d2
            go_wp2_with fail
            go_roundw
            case rel => exact ⟨k + 1, by omega, by go_num, HN2, HD2⟩
            case measure => simp [intOf]; omega
          · clear hi
            rw [h0] at HOf
            clear h0
            go_upto_region 4 with (fail)
            refine wp_region_g 16 (by kernel_rfl) ?_
            refine AllC.head 0 16 (fuel := 1) (by first | exact fun h k => Grew.trans h k | exact fun h k => cls_grew h k) (grew_drew _) (by rfl) (by kernel_rfl) ?_
            simp only [List.take_succ_cons, List.take_zero, List.drop_succ_cons, List.drop_zero]
            repeat (first
              | (refine HeadC.val (by rfl) ?_
                 apply Exists.intro
                 refine ⟨fun w' hw' => ?_, ?_⟩
                 · (have hf_0 := cell_up hw' d0; have hf_1 := cell_up hw' d1; have hf_2 := cell_up hw' d2; have hf_3 := cell_up hw' z0; have hf_4 := cell_up hw' z1; (go_simp) <;> (try go_ints) <;> with_reducible rfl)
                 try simp only [Act.put, List.setIfInBounds_toArray, List.set_cons_zero, List.set_cons_succ])
              | (refine HeadC.call (by rfl) ?_
                 apply Exists.intro; apply Exists.intro
                 refine ⟨fun w' hw' => ?_, ?_⟩
                 · (have hf_0 := cell_up hw' d0; have hf_1 := cell_up hw' d1; have hf_2 := cell_up hw' d2; have hf_3 := cell_up hw' z0; have hf_4 := cell_up hw' z1; (go_simp) <;> first | (refine ⟨?_, ?_⟩ <;> with_reducible rfl) | with_reducible rfl)
                 apply Exists.intro
                 refine ⟨fun w' hw' => ?_, ?_⟩
                 · (first | exact HOf.out _ hw')
                 try simp only [Act.put, List.setIfInBounds_toArray, List.set_cons_zero, List.set_cons_succ])
              | (refine HeadC.shut (by rfl) ?_
                 try simp only [Act.put, List.setIfInBounds_toArray, List.set_cons_zero, List.set_cons_succ]))
            refine HeadC.nil ?_
            refine AllC.tail 16 (by rfl) (by kernel_rfl) ?_
            intro wt hwt
            simp only [List.drop_succ_cons, List.drop_zero]
            have HD2 := Lib.hid (Grew.trans HD.out ((grew_drew wr).trans hwt))
            clear hwt z0 z1 d0 d1 d2
            go_wp2_with fail
            go_roundw
            case rel => exact ⟨k + 1, by omega, by go_num, HN2, HD2⟩
            case measure => simp [intOf]; omega
      · have HN2 := Lib.hid (HX.out (fun h => he h.1))
        clear HA HX HOf
        rcases id_ne he with hne | ⟨rfl, hne⟩
        all_goals
          clear he
          go_upto_region 4 with (fail)
          refine wp_region_g 16 (by kernel_rfl) ?_
          refine AllC.head 0 16 (fuel := 1) (by first | exact fun h k => Grew.trans h k | exact fun h k => cls_grew h k) (grew_drew _) (by rfl) (by kernel_rfl) ?_
          simp only [List.take_succ_cons, List.take_zero, List.drop_succ_cons, List.drop_zero]
          repeat (first
            | (refine HeadC.val (by rfl) ?_
               apply Exists.intro
               refine ⟨fun w' hw' => ?_, ?_⟩
               · (have hf_0 := cell_up hw' d0; have hf_1 := cell_up hw' d1; have hf_2 := cell_up hw' d2; have hf_3 := cell_up hw' z0; have hf_4 := cell_up hw' z1; (go_simp) <;> (try go_ints) <;> with_reducible rfl)
               try simp only [Act.put, List.setIfInBounds_toArray, List.set_cons_zero, List.set_cons_succ])
            | (refine HeadC.shut (by rfl) ?_
               try simp only [Act.put, List.setIfInBounds_toArray, List.set_cons_zero, List.set_cons_succ]))
          refine HeadC.nil ?_
          refine AllC.tail 16 (by rfl) (by kernel_rfl) ?_
          intro wt hwt
          simp only [List.drop_succ_cons, List.drop_zero]
          have HD2 := Lib.hid (Grew.trans HD.out ((grew_drew wr).trans hwt))
          clear hwt z0 z1 d0 d1 d2
          go_wp2_with fail
          go_roundw
          case rel => exact ⟨k + 1, by omega, by go_num, HN2, HD2⟩
          case measure => simp [intOf]; omega
    · obtain rfl : k = l.length := by omega
      rw [List.take_length] at HN
      go_wp2_with fail
      go_ret2
      exact ⟨with_no HN.out, Grew.trans HG0.out HD.out⟩
end Go.Proofs.Ytpoiejgoongllaa
