/-
  chunker.Split.
-/
import Derived.Test.YtnjhipnfhapngaaClone
import Derived.Test.YtnjhipnfhapngaaCutsL
namespace Go.Proofs.Ytnjhipnfhapngaa
set_option linter.unusedVariables false
set_option linter.unusedSimpArgs false
set_option linter.unnecessarySimpa false
open Go.RowKit
attribute [local go_sem ↓] Go.wp_at_zero Go.wp_at_succ

/-- parts that lie behind block g -/
def Far (w : World) (g : Nat) (ps : List Part) : Prop := ∀ p ∈ ps, Row w w.heap.size p.A (p.zs.map (.int .u8)) ∧ ∀ ad, p.A = some ad → g < ad.block
theorem Far.of {w w' : World} {g : Nat} {ps : List Part} (h : Far w g ps) (k : Below w.heap.size w w') : Far w' g ps := fun p hp => ⟨((h p hp).1.up k (Nat.le_refl _)).more k.size, (h p hp).2⟩
theorem Far.ch {w w' : World} {g : Nat} {ps : List Part} (h : Far w g ps) (k : Ch (At g) w w') : Far w' g ps := fun p hp =>
  ⟨((h p hp).1.chA k (Nat.le_refl _) (fun ad e => by have := (h p hp).2 ad e; show ¬ _ = g; omega)).more k.size, (h p hp).2⟩
theorem Far.lie {w : World} {g : Nat} {ps : List Part} (h : Far w g ps) : Lie w w.heap.size ps := fun p hp => (h p hp).1

theorem fill_set {α : Type} (xs : List α) (z v : α) (n k : Nat) (h : xs.length = k) (hk : k < n) : (xs ++ List.replicate (n - k) z).set k v = (xs ++ [v]) ++ List.replicate (n - (k + 1)) z := by
  subst h
  rw [List.set_append_right _ _ (Nat.le_refl _), Nat.sub_self, show n - xs.length = (n - (xs.length + 1)) + 1 by omega, List.replicate_succ, List.set_cons_zero, List.append_assoc]
  rfl
theorem fill_get {α : Type} (xs : List α) (z : α) (n k : Nat) (h : xs.length = k) (hk : k < n) : (xs ++ List.replicate (n - k) z)[k]? = some z := by
  subst h
  rw [List.getElem?_append_right (Nat.le_refl _), Nat.sub_self, List.getElem?_replicate, if_pos (by omega)]
set_option maxHeartbeats 2000000 in
theorem split_any (c : CutZ) (ok : c.Ok) (A : Option Addr) (cap B : Nat) (zs : List Int) (w : World) (hr : Row w B A (zs.map (.int .u8))) (hB : B ≤ w.heap.size) (hz : ∀ z ∈ zs, 0 ≤ z ∧ z ≤ 255) (hm : zs.length ≤ 1048576) (hcap : zs.length ≤ cap) :
    Calls Try.prog 71 #[cutV c.mn c.mx c.wn c.mask, .slice A zs.length cap] w fun e w' => ∃ (g : Nat) (ps : List Part), e = .returned (.tuple #[.slice (some ⟨g, 0, none⟩) ps.length ps.length, .int .i64 0]) ∧
      w'.ownsRow w.heap.size 34 1 (.slice (some ⟨g, 0, none⟩) ps.length ps.length) ps.length (ps.map Part.v) ∧ Far w' g ps ∧ ps.map Part.zs = cutsL (lensZ c zs) zs ∧ Below w.heap.size w w' := by
  have g0 := grew_alloc w (.cells #[.int .i64 c.mn, .int .i64 c.mx, .int .i64 c.wn, .int .u64 c.mask] 83)
  have hr0 := hr.below g0 hB
  have HC := Lib.hid (ends_any c ok A cap B zs _ hr0 (by simp; omega) hz hm)
  have hlen := ends_len ok zs
  have HL := Lib.hid (endsZ_length (c := c) zs)
  have HS := Lib.hid (lensZ_sum ok zs)
  have HP := Lib.hid (fun n hn => lensZ_pos ok zs n hn)
  have HG := Lib.hid (fun k h h' => psums_get (lensZ c zs) 0 k h h')
  unfold cutV at HC ⊢
  unfold endsZ at *
  generalize lensZ c zs = ls at *
  obtain ⟨i0, hi, hz0, hz1, hz2⟩ := info_parts (show (Try.prog.info? 34).map (fun i => (i.zero, i.size, i.bytes)) = some (some (.slice none 0 0), 1, 24) from by kernel_rfl)
  clear hz
  go_enter Try.func71, Try.ntmps71
  go_wp2_with fail
  refine HC.out.mono ?_
  rintro e w1 ⟨A1, c1, rfl, hown, hb⟩
  have hb1 := Grew.trans g0 hb
  have hr1 := hr0.below hb (by simp; omega)
  have hb1s := hb1.size
  rw [HL.out] at hown hlen ⊢
  clear hb g0 HC hr hr0
  go_wp2_with (at_make; refine wpList_make_full _ rfl (.tmp 22) (.tmp 22) 27 rfl w.heap.size 34 i0 (.slice none 0 0) 1 Try.underlying27 hi hz0 hz1 .i64 .i64 _ _ ls.length rfl rfl rfl rfl (by rw [hz2]; omega) (by unfold maxLen; omega) hb1s ?_)
  intro w2 hown2 hgrow
  simp only [Value.cells, Nat.mul_one, toList_madeCells_one] at hown2
  have hE := own_row hown
  have hG2 : Grew w1 w2 := (Below.refl _ _).grown hgrow (Nat.le_refl _) (by simp)
  have hgs : Hid (w1.heap.size = w1.heap.size) := Lib.hid rfl
  clear hgrow hown
  go_wp2_with fail
  go_loopw [9, 26] (fun b i wr => ∃ (k : Nat) (ps : List Part), k ≤ ls.length ∧ i = .int .i64 k ∧ b = .int .i64 ((ls.take k).sum : Nat) ∧ Hid (ps.length = k) ∧
    wr.ownsRow w.heap.size 34 1 (.slice (some ⟨w1.heap.size, 0, none⟩) ls.length ls.length) ls.length (ps.map Part.v ++ List.replicate (ls.length - k) (.slice none 0 0)) ∧ Far wr w1.heap.size ps ∧ Hid (ps.map Part.zs = cutsL (ls.take k) zs) ∧ Below w1.heap.size w1 wr) (fun _ i _ => ls.length - (intOf i).toNat)
  case atStart => exact ⟨0, [], Nat.zero_le _, rfl, by simp, Lib.hid rfl, by simpa using hown2, fun p hp => by simp at hp, Lib.hid (by simp [cutsL]), hG2⟩
  case round =>
    clear hown2 hG2 hgs
    obtain ⟨k, ps, hk, rfl, rfl, HK, hown, hF, HZ, hb⟩ := hrel
    have hs1 := hb.size
    have hwl : ls.length = 0 ∨ w1.heap.size < wr.heap.size := by
      rcases Nat.eq_zero_or_pos ls.length with h | h
      · exact .inl h
      · obtain ⟨g, hg, _, hl⟩ := own_some hown h
        injection hg with hg
        injection hg with hg
        exact .inr (by omega)
    by_cases hlt : k < ls.length
    · have hsum := take_sum_succ ls k hlt
      have hle := take_sum_le ls (k + 1)
      rw [HS.out] at hle
      have hpos := (HP.out ls[k] (List.getElem_mem hlt)).1
      obtain ⟨ad1, rfl, hbl, hc⟩ := nat_at (hE.below hb (Nat.le_refl _)) (show k < (psums 0 ls).length by rw [HL.out]; exact hlt)
      rw [HG.out k hlt, Nat.zero_add] at hc
      have HCut := Lib.hid (cutsL_take ls k hlt zs)
      have hm' : ls[k] = (ls.take (k + 1)).sum - (ls.take k).sum := by omega
      rw [hm'] at HCut
      clear hm'
      obtain ⟨s, hs⟩ : ∃ s, s = (ls.take k).sum := ⟨_, rfl⟩
      obtain ⟨e, he⟩ : ∃ e, e = (ls.take (k + 1)).sum := ⟨_, rfl⟩
      rw [← hs] at HCut hsum ⊢
      rw [← he] at HCut hsum hle hc
      have HE := Lib.hid he
      clear hs he
      have hse : s < e := by omega
      clear hsum hpos
      obtain ⟨ad, rfl, hbd, _⟩ := (hr1.below hb (by omega)).at_ (k := s) (by rw [List.length_map]; omega)
      have hcs : ¬ cap = s := by omega
      have hrd := (hr1.below hb (by omega)).cut' (lo := s) (m := e - s) (cap := cap) (by omega)
      rw [if_neg hcs, ← List.map_drop, ← List.map_take] at hrd
      have hll : ((zs.drop s).take (e - s)).length = e - s := by rw [List.length_take, List.length_drop]; omega
      have HCl := Lib.hid (clone_any (ad.add s) (cap - s) B ((zs.drop s).take (e - s)) wr hrd (by omega) (by omega) (by omega))
      rw [hll] at HCl
      have HLL := Lib.hid hll
      clear hll hrd
      have c1' : (s : Int) ≤ e := by omega
      have c2' : (e : Int) ≤ cap := by omega
      go_wp2_with fail
      refine HCl.out.mono ?_
      rintro ee w3 ⟨A3, c3, rfl, hown3, hb3⟩
      have own4 := own_below hown hb3
      have hg1 := own4.cellAt k (by omega)
      rw [fill_get _ _ _ _ (by rw [List.length_map, HK.out]) hlt] at hg1
      have hfz := own4.frozenAt k
      have hk1 : (k : Int) < (ls.length : Int) := by omega
      have hst := own4.stored k (.slice A3 (e - s) c3)
      have hs3 := hb3.size
      have HST := Lib.hid hst
      obtain ⟨ga, hga, hgb, hgl⟩ := own_some hown3 (by omega)
      have HF : Hid (Far w3 w1.heap.size (ps ++ [⟨A3, c3, (zs.drop s).take (e - s)⟩])) := Lib.hid (fun p hp => by
        rcases List.mem_append.1 hp with h | h
        · exact (hF.of hb3) p h
        · rw [List.mem_singleton] at h
          subst h
          exact ⟨own_row hown3, fun ad e => by have e2 : A3 = some ad := e; rw [hga] at e2; injection e2 with e2; subst e2; show w1.heap.size < ga; have := hwl; omega⟩)
      have hb4 : Below w1.heap.size w1 w3 := Grew.trans hb hb3
      have HO := Lib.hid hown3
      clear hst HCl hown own4 hown3 hb hb3 hF hga hcs
      go_wp2_with fail
      go_roundw
      case rel =>
        refine ⟨k + 1, ps ++ [⟨A3, c3, (zs.drop s).take (e - s)⟩], by omega, by go_num, ?_, Lib.hid (by rw [List.length_append, HK.out]; rfl), ?_, HF.out.ch (Ch.of_grown HST.out.2), Lib.hid (by rw [List.map_append, HZ.out, HCut.out]; rfl), ?_⟩
        · rw [← HE.out]
        · rw [List.map_append]
          have h := HST.out.1
          rw [fill_set _ _ _ _ _ (by rw [List.length_map, HK.out]) hlt] at h
          have hv : Part.v ⟨A3, c3, (zs.drop s).take (e - s)⟩ = .slice A3 (e - s) c3 := by unfold Part.v; rw [HLL.out]
          rw [List.map_cons, List.map_nil, hv]
          exact h
        · exact hb4.setCell (by show w1.heap.size ≤ w1.heap.size; omega) _
      case measure => simp [intOf]; omega
    · obtain rfl : k = ls.length := by omega
      go_wp2_with fail
      go_ret2
      refine ⟨w1.heap.size, ps, by rw [HK.out]; rfl, ?_, hF, by rw [HZ.out, List.take_length], Grew.trans hb1 hb⟩
      rw [HK.out]
      simpa using hown

end Go.Proofs.Ytnjhipnfhapngaa
