/-
  stockyardref24.End, Ends: the specification's boundaries.
-/
import Derived.Test.YtnjhipnfhapngaaTexts
import Derived.Test.YtnjhipnfhapngaaCutMath
namespace Go.Proofs.Ytnjhipnfhapngaa
set_option linter.unusedVariables false
set_option linter.unusedSimpArgs false
set_option linter.unnecessarySimpa false
open Go.RowKit
attribute [local go_sem ↓] Go.wp_at_zero Go.wp_at_succ

/-- what End returns -/
def endV (c : CutZ) (zs : List Int) (s : Nat) : Value := match nxtL c (zs.drop s) with
  | some e => .tuple #[.int .i64 ((s : Int) + e), .bool true]
  | none => .tuple #[.int .i64 (zs.length : Int), .bool false]
theorem endV_some {c : CutZ} {zs : List Int} {s e : Nat} (h : nxtL c (zs.drop s) = some e) : endV c zs s = .tuple #[.int .i64 ((s : Int) + e), .bool true] := by unfold endV; rw [h]
theorem endV_none {c : CutZ} {zs : List Int} {s : Nat} (h : nxtL c (zs.drop s) = none) : endV c zs s = .tuple #[.int .i64 (zs.length : Int), .bool false] := by unfold endV; rw [h]
theorem lastN_part (zs : List Int) (s e n : Nat) (hn : n ≤ e) (he : s + e ≤ zs.length) : lastN n ((zs.drop s).take e) = (zs.drop (s + e - n)).take n := by
  unfold lastN
  rw [List.length_take, List.length_drop, Nat.min_eq_left (by omega), List.drop_take, List.drop_drop, show e - (e - n) = n by omega, show s + (e - n) = s + e - n by omega]
theorem and_comm_u64 (a b : Int) : bits .and .u64 a b = bits .and .u64 b a := by
  show IntKind.u64.wrap ((BitVec.ofInt 64 a &&& BitVec.ofInt 64 b).toNat : Int) = IntKind.u64.wrap ((BitVec.ofInt 64 b &&& BitVec.ofInt 64 a).toNat : Int)
  rw [BitVec.and_comm]

set_option maxHeartbeats 2000000 in
theorem end24_any (c : CutZ) (ok : c.Ok) (A : Option Addr) (cap B s : Nat) (zs : List Int) (w : World) (hr : Row w B A (zs.map (.int .u8))) (hB : B ≤ w.heap.size) (hz : ∀ z ∈ zs, 0 ≤ z ∧ z ≤ 255) (hm : zs.length ≤ 1048576) (hcap : zs.length ≤ cap) (hs : s ≤ zs.length) :
    Calls Try.prog 86 #[.agg #[.int .i64 c.mn, .int .i64 c.mx, .int .i64 c.wn, .int .u64 c.mask], .slice A zs.length cap, .int .i64 s] w fun e w' => e = .returned (endV c zs s) ∧ Below w.heap.size w w' := by
  have g0 := grew_alloc w (.cells #[.int .i64 c.mn, .int .i64 c.mx, .int .i64 c.wn, .int .u64 c.mask] 83)
  have hC := CutAt.new w c
  have hr0 := hr.below g0 hB
  have hB0 := Nat.le_trans hB g0.size
  have hgl := hC.lt
  have k0 := ok.w1; have k1 := ok.wm; have k2 := ok.mm; have k3 := ok.mx
  have OK := Lib.hid ok
  have Hz := Lib.hid hz
  clear hr ok hz hB
  go_enter Try.func86, Try.ntmps86
  go_wp2_with fail
  generalize w.alloc (.cells #[.int .i64 c.mn, .int .i64 c.mx, .int .i64 c.wn, .int .u64 c.mask] 83) = w1 at *
  generalize hgc : w.heap.size = gc at *
  have HG := Lib.hid hgc
  clear hgc
  go_loopw [8] (fun i wr => (∃ e : Nat, c.mn ≤ e ∧ (e = c.mn ∨ s + e ≤ zs.length + 1) ∧ i = .int .i64 ((s : Int) + e) ∧ Hid (∀ e', 1 ≤ e' → e' < e → endL c (zs.drop s) e' = false)) ∧ Grew w1 wr) (fun i _ => zs.length + 1 - (intOf i).toNat)
  case atStart => exact ⟨⟨c.mn, Nat.le_refl _, .inl rfl, rfl, Lib.hid (fun e' _ h => endL_short h)⟩, Below.refl _ _⟩
  case round =>
    obtain ⟨⟨e, he1, he2, rfl, HE⟩, hb⟩ := hrel
    by_cases hlt : s + e ≤ zs.length
    · have hle : (s : Int) + e ≤ (zs.length : Int) := by omega
      have hC1 := hC.of hb
      obtain ⟨d0, d1, d2, d3, d4⟩ := hC1.cells
      have hmx : e ≤ c.mx := by
        rcases Nat.lt_or_ge c.mx e with h | h
        · have := HE.out c.mx (by omega) h
          rw [endL_max OK.out (Nat.le_refl _)] at this
          cases this
        · exact h
      have hdl : (zs.drop s).length = zs.length - s := List.length_drop
      by_cases hx : e = c.mx
      · have HN : Hid (nxtL c (zs.drop s) = some e) := Lib.hid (nxtL_some.2 ⟨by omega, by omega, endL_max OK.out (by omega), HE.out⟩)
        have f1 : ((s : Int) + e == (s : Int) + c.mx) = true := by rw [beq_iff_eq]; omega
        clear hdl hx hC1
        go_wp2_with fail
        go_quiet (fail)
        go_wp2_with fail
        go_ret2
        exact ⟨(endV_some HN.out).symm ▸ rfl, Grew.trans g0 (hb.trans (below_drewN (Below.refl _ _) _))⟩
      · have f1 : ((s : Int) + e == (s : Int) + c.mx) = false := by rw [beq_eq_false_iff_ne]; omega
        obtain ⟨ad, rfl, hbd, _⟩ := (hr0.below hb hB0).at_ (k := s) (by rw [List.length_map]; omega)
        obtain ⟨p, hp⟩ : ∃ p, p = s + e - c.wn := ⟨_, rfl⟩
        have hq : (s : Int) + e - c.wn = (p : Int) := by omega
        have hq2 : ((s : Int) + e).toNat = s + e := by omega
        have hcp : ¬ cap = p := by omega
        have hpe : (p : Int) ≤ (s : Int) + e := by omega
        have hec : (s : Int) + e ≤ (cap : Int) := by omega
        have HPp := Lib.hid hp
        clear hdl hC1 hp
        go_wp2_with fail
        refine wp_region_g 19 (by kernel_rfl) ?_
        have hwn : c.wn ≤ s + e := by omega
        have hrc := (hr0.below hb hB0).cut' (lo := p) (m := s + e - p) (cap := cap) (by omega)
        rw [if_neg hcp, ← List.map_drop, ← List.map_take] at hrc
        have hpn := HPp.out
        have hlp : ((zs.drop p).take (s + e - p)).length = s + e - p := by rw [List.length_take, List.length_drop]; omega
        have hsub : sumZ ((zs.drop p).take (s + e - p)) = sumZ (lastN c.wn ((zs.drop s).take e)) := by
          rw [lastN_part zs s e c.wn (by omega) hlt, hpn, show s + e - (s + e - c.wn) = c.wn by omega]
        have hzz : ∀ z ∈ (zs.drop p).take (s + e - p), 0 ≤ z ∧ z ≤ 255 := fun z hz => Hz.out z (List.mem_of_mem_drop (List.mem_of_mem_take hz))
        have HSum := Lib.hid (fun W (h : Row W B (some (ad.add p)) (((zs.drop p).take (s + e - p)).map (.int .u8))) => grew_draws (refSum_any (some (ad.add p)) (cap - p) B _ W h hzz (by omega)))
        rw [hlp, hsub] at HSum
        have hE2 : endL c (zs.drop s) e = maskZ c.mask (sumZ (lastN c.wn ((zs.drop s).take e))) := by
          unfold endL stopZ
          rw [decide_eq_true (by omega : c.mn ≤ e), decide_eq_false (by omega : ¬ c.mx ≤ e)]
          rfl
        have hBr := Nat.le_trans hB0 hb.size
        have HE2 := Lib.hid hE2
        clear hE2 hsub hlp hzz hpn hwn
        generalize sumZ (lastN c.wn ((zs.drop s).take e)) = sm at *
        by_cases h3 : bits .and .u64 c.mask sm = 0
        · have h3' : bits .and .u64 sm c.mask = 0 := by rw [and_comm_u64]; exact h3
          have HN : Hid (nxtL c (zs.drop s) = some e) := Lib.hid (nxtL_some.2 ⟨by omega, by rw [List.length_drop]; omega, by rw [HE2.out]; unfold maskZ; exact decide_eq_true h3, HE.out⟩)
          clear h3
          refine AllC.head 0 19 (fuel := 1) (by first | exact fun h k => Grew.trans h k | exact fun h k => cls_grew h k) (grew_drew _) (by rfl) (by kernel_rfl) ?_
          simp only [List.take_succ_cons, List.take_zero, List.drop_succ_cons, List.drop_zero]
          repeat (first
            | (refine HeadC.val (by rfl) ?_
               apply Exists.intro
               refine ⟨fun w' hw' => ?_, ?_⟩
               · (have hf_0 := cell_up hw' d0; have hf_1 := cell_up hw' d1; have hf_2 := cell_up hw' d2; have hf_3 := cell_up hw' d3; (go_simp) <;> (try go_ints) <;> with_reducible rfl)
               try simp only [Act.put, List.setIfInBounds_toArray, List.set_cons_zero, List.set_cons_succ])
            | (refine HeadC.call (by rfl) ?_
               apply Exists.intro; apply Exists.intro
               refine ⟨fun w' hw' => ?_, ?_⟩
               · (have hf_0 := cell_up hw' d0; have hf_1 := cell_up hw' d1; have hf_2 := cell_up hw' d2; have hf_3 := cell_up hw' d3; (go_simp) <;> first | (refine ⟨?_, ?_⟩ <;> with_reducible rfl) | with_reducible rfl)
               apply Exists.intro
               refine ⟨fun w' hw' => ?_, ?_⟩
               · (first | exact HSum.out _ (hrc.up hw' hBr))
               try simp only [Act.put, List.setIfInBounds_toArray, List.set_cons_zero, List.set_cons_succ])
            | (refine HeadC.shut (by rfl) ?_
               try simp only [Act.put, List.setIfInBounds_toArray, List.set_cons_zero, List.set_cons_succ]))
          refine HeadC.nil ?_
          refine AllC.tail 19 (by rfl) (by kernel_rfl) ?_
          intro wt hwt
          simp only [List.drop_succ_cons, List.drop_zero]
          have f3 : (bits .and .u64 sm c.mask == 0) = true := by rw [h3']; rfl
          have hg1 : Grew wr wt := (grew_drew _).trans hwt
          clear h3'
          go_wp2_with fail
          go_ret2
          exact ⟨(endV_some HN.out).symm ▸ rfl, Grew.trans g0 (hb.trans hg1)⟩
        · have h3' : ¬ bits .and .u64 sm c.mask = 0 := by rw [and_comm_u64]; exact h3
          have HE3 : Hid (∀ e', 1 ≤ e' → e' < e + 1 → endL c (zs.drop s) e' = false) := Lib.hid (fun e' h1 h2 => by
            rcases Nat.lt_succ_iff_lt_or_eq.1 h2 with h | h
            · exact HE.out e' h1 h
            · subst h; rw [HE2.out]; unfold maskZ; exact decide_eq_false h3)
          clear h3
          refine AllC.head 0 19 (fuel := 1) (by first | exact fun h k => Grew.trans h k | exact fun h k => cls_grew h k) (grew_drew _) (by rfl) (by kernel_rfl) ?_
          simp only [List.take_succ_cons, List.take_zero, List.drop_succ_cons, List.drop_zero]
          repeat (first
            | (refine HeadC.val (by rfl) ?_
               apply Exists.intro
               refine ⟨fun w' hw' => ?_, ?_⟩
               · (have hf_0 := cell_up hw' d0; have hf_1 := cell_up hw' d1; have hf_2 := cell_up hw' d2; have hf_3 := cell_up hw' d3; (go_simp) <;> (try go_ints) <;> with_reducible rfl)
               try simp only [Act.put, List.setIfInBounds_toArray, List.set_cons_zero, List.set_cons_succ])
            | (refine HeadC.call (by rfl) ?_
               apply Exists.intro; apply Exists.intro
               refine ⟨fun w' hw' => ?_, ?_⟩
               · (have hf_0 := cell_up hw' d0; have hf_1 := cell_up hw' d1; have hf_2 := cell_up hw' d2; have hf_3 := cell_up hw' d3; (go_simp) <;> first | (refine ⟨?_, ?_⟩ <;> with_reducible rfl) | with_reducible rfl)
               apply Exists.intro
               refine ⟨fun w' hw' => ?_, ?_⟩
               · (first | exact HSum.out _ (hrc.up hw' hBr))
               try simp only [Act.put, List.setIfInBounds_toArray, List.set_cons_zero, List.set_cons_succ])
            | (refine HeadC.shut (by rfl) ?_
               try simp only [Act.put, List.setIfInBounds_toArray, List.set_cons_zero, List.set_cons_succ]))
          refine HeadC.nil ?_
          refine AllC.tail 19 (by rfl) (by kernel_rfl) ?_
          intro wt hwt
          simp only [List.drop_succ_cons, List.drop_zero]
          have f3 : (bits .and .u64 sm c.mask == 0) = false := by rw [beq_eq_false_iff_ne]; exact h3'
          have hg1 : Grew wr wt := (grew_drew _).trans hwt
          clear h3'
          go_wp2_with fail
          go_roundw
          case rel => exact ⟨⟨e + 1, by omega, .inr (by omega), by go_num, HE3⟩, hb.trans hg1⟩
          case measure => simp [intOf]; omega
    · have hle : (zs.length : Int) < (s : Int) + e := by omega
      have HN : Hid (nxtL c (zs.drop s) = none) := Lib.hid (nxtL_none.2 (fun e' h1 h2 => by
        rw [List.length_drop] at h2
        exact HE.out e' h1 (by omega)))
      go_wp2_with fail
      go_ret2
      exact ⟨(endV_none HN.out).symm ▸ rfl, Grew.trans g0 hb⟩

/-- how far the chunk that begins at s goes -/
def nxE (c : CutZ) (zs : List Int) (s : Nat) : Nat := match nxtL c (zs.drop s) with
  | some e => e
  | none => zs.length - s
theorem endV_eq {c : CutZ} {zs : List Int} {s : Nat} (hs : s ≤ zs.length) : endV c zs s = .tuple #[.int .i64 ((s : Int) + (nxE c zs s : Nat)), .bool (nxtL c (zs.drop s)).isSome] := by
  unfold endV nxE
  cases nxtL c (zs.drop s) with
  | some e => rfl
  | none =>
    have : (zs.length : Int) = (s : Int) + ((zs.length - s : Nat) : Int) := by omega
    simp only [Option.isSome_none]
    rw [← this]
theorem nxE_bd {c : CutZ} (ok : c.Ok) {zs : List Int} {s : Nat} (hs : s < zs.length) : 1 ≤ nxE c zs s ∧ s + nxE c zs s ≤ zs.length := by
  unfold nxE
  cases h : nxtL c (zs.drop s) with
  | some e =>
    have hb := nxtL_bd ok h
    rw [List.length_drop] at hb
    simp only
    omega
  | none => simp only; omega
theorem lensZ_nxE {c : CutZ} (ok : c.Ok) {zs : List Int} {s : Nat} (hs : s < zs.length) : lensZ c (zs.drop s) = nxE c zs s :: lensZ c (zs.drop (s + nxE c zs s)) := by
  have hne : zs.drop s ≠ [] := fun e => by have := congrArg List.length e; rw [List.length_drop] at this; simp at this; omega
  unfold nxE
  cases h : nxtL c (zs.drop s) with
  | some e => rw [lensZ_some ok h, List.drop_drop]
  | none =>
    simp only
    rw [lensZ_none hne h, List.length_drop, show s + (zs.length - s) = zs.length by omega, List.drop_length, lensZ_nil]
/-- the chunks ls are those ahead of s -/
structure RefZ (c : CutZ) (zs : List Int) (ls : List Nat) (s : Nat) : Prop where
  sum : ls.sum = s
  le : s ≤ zs.length
  lens : lensZ c zs = ls ++ lensZ c (zs.drop s)
theorem RefZ.zero {c : CutZ} {zs : List Int} : RefZ c zs [] 0 := ⟨rfl, Nat.zero_le _, rfl⟩
theorem RefZ.step {c : CutZ} (ok : c.Ok) {zs : List Int} {ls : List Nat} {s : Nat} (h : RefZ c zs ls s) (hs : s < zs.length) : RefZ c zs (ls ++ [nxE c zs s]) (s + nxE c zs s) :=
  ⟨by rw [List.sum_append, h.sum]; simp, (nxE_bd ok hs).2, by rw [List.append_assoc, h.lens, lensZ_nxE ok hs]; rfl⟩
theorem RefZ.psums {c : CutZ} {zs : List Int} {ls : List Nat} {s : Nat} (h : RefZ c zs ls s) : natV (psums 0 (ls ++ [nxE c zs s])) = natV (Go.Proofs.Ytnjhipnfhapngaa.psums 0 ls) ++ [.int .i64 ((s : Int) + (nxE c zs s : Nat))] := by
  rw [psums_append, natV_append, h.sum]
  simp [Go.Proofs.Ytnjhipnfhapngaa.psums, natV]
theorem RefZ.done {c : CutZ} {zs : List Int} {ls : List Nat} (h : RefZ c zs ls zs.length) : lensZ c zs = ls := by rw [h.lens, List.drop_length, lensZ_nil, List.append_nil]
theorem RefZ.count {c : CutZ} (ok : c.Ok) {zs : List Int} {ls : List Nat} {s : Nat} (h : RefZ c zs ls s) : ls.length ≤ zs.length := by
  have h1 := lensZ_len ok zs
  rw [h.lens, List.length_append] at h1
  omega

set_option maxHeartbeats 2000000 in
theorem refEnds_any (c : CutZ) (ok : c.Ok) (A : Option Addr) (cap B : Nat) (zs : List Int) (w : World) (hr : Row w B A (zs.map (.int .u8))) (hB : B ≤ w.heap.size) (hz : ∀ z ∈ zs, 0 ≤ z ∧ z ≤ 255) (hm : zs.length ≤ 1048576) (hcap : zs.length ≤ cap) :
    Calls Try.prog 72 #[.agg #[.int .i64 c.mn, .int .i64 c.mx, .int .i64 c.wn, .int .u64 c.mask], .slice A zs.length cap] w fun e w' => ∃ A' cap', e = .returned (.tuple #[.slice A' (endsZ c zs).length cap', .int .i64 0]) ∧
      w'.ownsRow w.heap.size 3 1 (.slice A' (endsZ c zs).length cap') (endsZ c zs).length (natV (endsZ c zs)) ∧ Below w.heap.size w w' := by
  have HC := Lib.hid (fun W => refCheck_any c.mn c.mx c.wn c.mask W)
  rw [cutErr_z ok] at HC
  unfold cutV at HC
  have g0 := grew_alloc w (.cells #[.int .i64 c.mn, .int .i64 c.mx, .int .i64 c.wn, .int .u64 c.mask] 83)
  have hC := CutAt.new w c
  have hr0 := hr.below g0 hB
  have hB0 := Nat.le_trans hB g0.size
  have hBg := hB
  have gs1 : w.heap.size + 1 ≤ (w.alloc (.cells #[.int .i64 c.mn, .int .i64 c.mx, .int .i64 c.wn, .int .u64 c.mask] 83)).heap.size := by simp
  have Hz := Lib.hid hz
  have OK := Lib.hid ok
  obtain ⟨d0, d1, d2, d3, d4⟩ := hC.cells
  clear hr hB hz ok
  go_enter Try.func72, Try.ntmps72
  go_wp2_with fail
  refine (HC.out _).mono ?_
  rintro e w1 ⟨rfl, hb⟩
  have hC1 := hC.of hb
  have hr1 := hr0.below hb hB0
  have hb1 : Below w.heap.size w w1 := Grew.trans g0 hb
  have gs : w.heap.size + 1 ≤ w1.heap.size := Nat.le_trans gs1 hb.size
  have gle : ¬ (1048576 < (zs.length : Int)) := by omega
  clear hb hC hr0 hB0 HC d0 d1 d2 d3 d4 g0 gs1
  generalize hgc : w.heap.size = gc at *
  have HGc := Lib.hid hgc
  clear hgc
  go_wp2_with fail
  go_loopw [7, 8] (fun v i wr => (∃ (s : Nat) (ls : List Nat) (A1 : Option Addr) (c1 : Nat), i = .int .i64 s ∧ RefZ c zs ls s ∧ v = .slice A1 ls.length c1 ∧ wr.ownsRow (gc + 1) 3 1 (.slice A1 ls.length c1) ls.length (natV (psums 0 ls))) ∧ Below (gc + 1) w1 wr) (fun _ i _ => zs.length - (intOf i).toNat)
  case atStart => exact ⟨⟨0, [], none, 0, rfl, RefZ.zero, rfl, World.ownsRow_nil _ _ _ _⟩, Below.refl _ _⟩
  case round =>
    obtain ⟨⟨s, ls, A1, c1, rfl, hR, rfl, hown⟩, hb⟩ := hrel
    have hgs : gc + 1 ≤ wr.heap.size := Nat.le_trans gs hb.size
    have hle := hR.le
    have hcount := hR.count OK.out
    by_cases hlt : s < zs.length
    · obtain ⟨d0, d1, d2, d3, d4⟩ := CutAt.cells (w := wr) (g := gc) ((hb.block gc (Nat.lt_succ_self _)).trans hC1)
      have HE := Lib.hid (end24_any c OK.out A cap B s zs wr (hr1.below hb (Nat.le_succ_of_le hBg)) (by omega) Hz.out hm hcap hle)
      rw [endV_eq hle] at HE
      have hn := nxE_bd OK.out hlt
      have HP := Lib.hid hR.psums
      have HR := Lib.hid (hR.step OK.out hlt)
      clear hR
      generalize nxE c zs s = n at *
      go_wp2_with fail
      refine HE.out.mono ?_
      rintro e w2 ⟨rfl, hb2⟩
      have hown2 := own_below hown hb2
      have hgs2 := Nat.le_trans hgs hb2.size
      have hbb2 : Below (gc + 1) w1 w2 := Below.trans (B := gc + 1) hb (hb2.mono hgs)
      clear hown hb hb2 HE
      go_wp2_with (at_builtin; refine wpList_append_row rfl (.tmp 28) (.tmp 30) rfl (gc + 1) elem_int (by rfl) (hown2.alloc _) _ (by rfl) (by rfl) (Blk.row (Blk.new w2 3 #[.int .i64 ((s : Int) + (n : Int))])) (by simp [Value.oneCell']) (by unfold maxLen; omega) (by omega) (by simp; omega) ?_; intro A3 c3 w3 hown3 hg3 hwh3)
      have hbb3 : Below (gc + 1) w1 w3 := Below.trans (B := gc + 1) (Below.trans (B := gc + 1) hbb2 ((grew_alloc w2 _).mono hgs2)) (below_grown hg3 (by simp; omega) (own_lt hown2))
      clear hbb2 hg3 hwh3 hown2
      go_wp2_with fail
      go_roundw
      case rel =>
        refine ⟨⟨s + n, ls ++ [n], A3, c3, by go_num, HR.out, by rw [List.length_append]; rfl, ?_⟩, hbb3⟩
        rw [HP.out, List.length_append]
        exact hown3
      case measure => simp [intOf]; omega
    · obtain rfl : s = zs.length := by omega
      have HD := Lib.hid hR.done
      go_wp2_with fail
      go_ret2
      have he : (endsZ c zs).length = ls.length := by rw [endsZ_length, HD.out]
      have he2 : endsZ c zs = psums 0 ls := by unfold endsZ; rw [HD.out]
      rw [HGc.out, he, he2]
      exact ⟨A1, c1, rfl, own_mono hown (Nat.le_succ _), Below.trans (B := gc) hb1 (hb.mono (Nat.le_succ _))⟩

end Go.Proofs.Ytnjhipnfhapngaa
