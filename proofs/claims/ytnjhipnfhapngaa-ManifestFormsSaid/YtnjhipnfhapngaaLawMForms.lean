/-
  stockyardlaw25.ManifestForms returns true.
-/
import Derived.Test.YtnjhipnfhapngaaForm25e
import Derived.Test.YtnjhipnfhapngaaBuild25
import Derived.Test.YtnjhipnfhapngaaTx
namespace Go.Proofs.Ytnjhipnfhapngaa
set_option linter.unusedVariables false
set_option linter.unusedSimpArgs false
set_option linter.unnecessarySimpa false
open Go.RowKit
attribute [local go_sem ↓] Go.wp_at_zero Go.wp_at_succ

theorem lebN_pos (n : Nat) : 1 ≤ (lebN n).length := by
  unfold lebN
  rw [leb]
  split <;> simp
theorem encB_ok {n : Int} {ids : List IdZ} {k : Nat} (hk : ids.length ≤ k) (hc : chkM n ids = 0) : Byt (encB n ids) ∧ 1 ≤ (encB n ids).length ∧ (encB n ids).length ≤ 10 * (2 + 2 * k) := by
  unfold encB
  rw [if_pos hc]
  refine ⟨?_, ?_, ?_⟩
  · intro z hz
    unfold lebs at hz
    obtain ⟨m, _, hm⟩ := List.mem_flatMap.1 hz
    exact leb_byt 10 m z hm
  · unfold lebs numsN
    rw [List.flatMap_cons, List.length_append]
    have := lebN_pos n.toNat
    omega
  · have h1 := lebs_len (numsN n.toNat ids.length ids)
    rw [numsN_len] at h1
    omega
theorem byt_nat : ∀ {zs : List Int}, Byt zs → ∃ l : List Nat, zs.map (Value.int .u8) = bysN l ∧ (∀ c ∈ l, c < 256) ∧ l.length = zs.length
  | [], _ => ⟨[], rfl, fun c hc => (by cases hc), rfl⟩
  | z :: zs, h => by
    obtain ⟨l, h1, h2, h3⟩ := byt_nat (fun x hx => h x (List.mem_cons_of_mem _ hx))
    have hz := h z (List.mem_cons_self ..)
    refine ⟨z.toNat :: l, ?_, ?_, by rw [List.length_cons, List.length_cons, h3]⟩
    · unfold bysN at h1 ⊢
      rw [List.map_cons, List.map_cons, h1, Int.toNat_of_nonneg hz.1]
    · intro c hc
      rcases List.mem_cons.1 hc with rfl | hc
      · omega
      · exact h2 c hc
theorem decL_len (l : List Nat) : (decL l).length ≤ 1024 := by
  unfold decL
  cases h : decM l with
  | none => simp
  | some r =>
    obtain ⟨n, ids⟩ := r
    unfold decM at h
    split at h
    · cases h
    · split at h
      · cases h
      · split at h
        · cases h
        · split at h
          · rename_i hq
            injection h with h
            injection h with h1 h2
            subst h2
            exact (chkM_zero hq.2).1
          · cases h
theorem byt_set {zs : List Int} (h : Byt zs) (k : Nat) {v : Int} (h0 : 0 ≤ v) (h1 : v ≤ 255) : Byt (zs.set k v) := by
  intro z hz
  rcases List.mem_or_eq_of_mem_set hz with h2 | rfl
  · exact h z h2
  · exact ⟨h0, h1⟩
theorem byt_take {zs : List Int} (h : Byt zs) (k : Nat) : Byt (zs.take k) := fun z hz => h z (List.mem_of_mem_take hz)
theorem byt_snoc {zs : List Int} (h : Byt zs) {v : Int} (h0 : 0 ≤ v) (h1 : v ≤ 255) : Byt (zs ++ [v]) := by
  intro z hz
  rcases List.mem_append.1 hz with h2 | h2
  · exact h z h2
  · rw [List.mem_singleton] at h2; subst h2; exact ⟨h0, h1⟩
/-- a text to be decoded -/
def DecP (w : World) (p : Part) : Prop := Row w w.heap.size p.A (p.zs.map (.int .u8)) ∧ Byt p.zs ∧ p.zs.length ≤ p.cap ∧ p.zs.length ≤ 4611686018427387904
theorem DecP.up {w w' : World} {p : Part} (h : DecP w p) (hg : Grew w w') : DecP w' p := ⟨(h.1.up hg (Nat.le_refl _)).more hg.size, h.2⟩

set_option maxRecDepth 100000 in
set_option maxHeartbeats 4000000 in
theorem lawMForms_any (R : Option Addr) (rc : Nat) (rs : List Int) (A : Option Addr) (cap : Nat) (ls : List Int) (w : World) (hraw : Row w w.heap.size R (rs.map (.int .u8))) (hrb : Byt rs) (hrc : rs.length ≤ rc) (hrm : rs.length ≤ 4611686018427387904)
    (hr : Row w w.heap.size A (ls.map (.int .i64))) (hz : ∀ z ∈ ls, -9223372036854775808 ≤ z ∧ z ≤ 9223372036854775807) (hm : ls.length ≤ 9223372036854775807) :
    Calls Try.prog 8 #[.slice R rs.length rc, .slice A ls.length cap] w fun e w' => e = .returned (.bool true) ∧ Below w.heap.size w w' := by
  have hT := Tp.new (cap := cap) hr (Nat.le_refl _) hz hm
  have g0 := grew_alloc w (.cells #[.slice A ls.length cap, .int .i64 0] 26)
  have hch0 : Ch (At w.heap.size) w (w.alloc (.cells #[.slice A ls.length cap, .int .i64 0] 26)) := Ch.of_below g0
  have HRB := Lib.hid hrb
  clear hz g0 hr hrb
  go_enter Try.func8, Try.ntmps8
  go_wp2_with fail
  generalize w.alloc (.cells #[.slice A ls.length cap, .int .i64 0] 26) = w1 at *
  refine (pieces25_any _ _ _ 5 _ hT (by omega) (by omega)).mono ?_
  rintro e w2 ⟨Ap, cp, ps, rfl, hpl, hS, hownp, hTx, hT2, hch, hcaps⟩
  have hb2 : Grew w w2 := (hch0.trans hch).below (Nat.le_refl _) (fun i hi => by rw [hi]; exact Nat.le_refl _)
  have htl := hT2.lt
  clear hT hch hch0
  have hsm := small_sum hS
  go_wp2_with fail
  refine (refOf25_any Ap cp _ _ ps w2 hownp hTx (fun p hp => (hS p hp).2.2) (by omega) (by have : totP ps ≤ 1073741824 := by omega
                                                                                           exact this)).mono ?_
  rintro e w3 ⟨A2, c2, rfl, hown2, hb⟩
  rw [totP_of]
  have hM := Blk.new w3 31 #[.int .i64 (totP ps : Nat), .slice A2 ps.length c2]
  have gM := grew_alloc w3 (.cells #[.int .i64 (totP ps : Nat), .slice A2 ps.length c2] 31)
  have hgm : ¬ At w.heap.size w3.heap.size := by have := hb.size; show ¬ _ = _; omega
  have h13 := Grew.trans hb gM
  have hb4 := Grew.trans hb2 h13
  have hT4 := hT2.of h13
  have hownp4 := own_below hownp h13
  have hTx4 := hTx.of h13
  have hown4 := own_below hown2 gM
  clear hb gM h13 hb2 hT2 hownp hTx hown2
  go_wp2_with fail
  generalize w3.alloc (.cells #[.int .i64 (totP ps : Nat), .slice A2 ps.length c2] 31) = w4 at *
  generalize w3.heap.size = gm at *
  clear w3
  have hck := small_chk hS (by omega)
  rw [totP_of] at hck
  have hwf := Lib.hid (small_wf hS)
  obtain ⟨hB0, hB1, hB2⟩ := encB_ok (k := 5) (by rw [idsOf_length]; omega) hck
  have HB := Lib.hid hB0
  have HE1 := encode25_any (totP ps : Nat) A2 c2 w4.heap.size (idsOf ps) w4 (own_row hown4) hwf.out (Nat.le_refl _) (by rw [idsOf_length]; omega)
  have HE2 := Lib.hid (fun W (h : Grew w4 W) => refEncode25_any (totP ps : Nat) A2 c2 w4.heap.size (idsOf ps) W ((own_row hown4).up h (Nat.le_refl _)) hwf.out h.size (by rw [idsOf_length]; omega))
  unfold EncRes at HE1 HE2
  rw [idsOf_length, hck] at HE1 HE2
  generalize encB (totP ps : Nat) (idsOf ps) = bs at *
  have m0 := (hM.cell 0).trans (show _ = some (.int .i64 (totP ps : Nat)) from rfl)
  have m1 := (hM.cell 1).trans (show _ = some (.slice A2 ps.length c2) from rfl)
  generalize totP ps = tp at *
  clear hck hS hownp4 hTx4 hown4 hB0 hwf hsm
  go_wp2_with fail
  refine HE1.mono ?_
  rintro e w5 ⟨Ab, cb, rfl, hownb, hb⟩
  have HE3 := HE2.out w5 hb
  clear HE1 HE2 m0 m1
  replace hM := hM.of hb
  replace hT4 := hT4.of hb
  replace hb4 := Grew.trans hb4 hb
  have hs5 := hT4.lt
  have m0 := (hM.cell 0).trans (show _ = some (.int .i64 (tp : Nat)) from rfl)
  have m1 := (hM.cell 1).trans (show _ = some (.slice A2 ps.length c2) from rfl)
  clear hb
  go_wp2_with fail
  refine HE3.mono ?_
  rintro e w6 ⟨Ac, cc, rfl, hownc, hb⟩
  obtain ⟨ac, rfl⟩ : ∃ ac, Ac = some ac := by
    rcases own_row hownc with h | ⟨ad, e, _⟩
    · have := congrArg List.length h; simp at this; rw [this] at hB1; simp at hB1
    · exact ⟨ad, e⟩
  clear HE3 m0 m1 hM
  replace hownb := own_below hownb hb
  replace hT4 := hT4.of hb
  replace hb4 := Grew.trans hb4 hb
  clear hb
  go_wp2_with fail
  refine (known25_any _).mono ?_
  rintro e w7 ⟨rfl, hb⟩
  replace hownb := own_below hownb hb
  replace hownc := own_below hownc hb
  replace hT4 := hT4.of hb
  replace hb4 := Grew.trans hb4 hb
  clear hb
  have q1 := conv_row' (own_row hownb) cb
  have q2 := conv_row' (own_row hownc) cc
  have hcc := (own_cap hownc).1
  have hrowc := own_row hownc
  have htl7 := hT4.lt
  have hcl : ∀ i, (Value.slice (some ac) bs.length cc).ownBlock = some i → i < w7.heap.size := fun i hi => (hownc.lt i hi).2
  go_wp2_with (at_builtin; refine wpList_append_row rfl (.const (.slice none 0 0)) (.tmp 50) rfl w7.heap.size elem_u8 (by rfl) (World.ownsRow_nil _ _ _ _) _ (by rfl) (by simp) hrowc (ones_u8 bs) (by unfold maxLen; omega) (by omega) (Nat.le_refl _) ?_; intro A8 c8 w8 hown8 hg8 _; have hb8 : Grew w7 w8 := grew_nil hg8)
  clear q1 q2 hg8
  rw [List.nil_append, Nat.zero_add] at hown8
  replace hownc := own_below hownc hb8
  replace hT4 := hT4.of hb8
  replace hb4 := Grew.trans hb4 hb8
  clear hownb hrowc
  refine (tapeNext_any _ _ _ 3 _ hT4 (by omega) (by omega)).mono ?_
  rintro e w9 ⟨x1, rfl, hx1, hT5, hch⟩
  have hx1b : x1 < 3 := by omega
  replace hch : Ch (At w.heap.size) w8 w9 := hch
  replace hown8 := own_ch hown8 hch (fun i hi h => by have := own_lt hown8 i hi; have h2 : i = w.heap.size := h; omega)
  replace hownc := own_ch hownc hch (fun i hi h => by have := own_lt hownc i hi; have h2 : i = w.heap.size := h; omega)
  replace hb4 : Below w.heap.size w w9 := Below.trans (B := w.heap.size) hb4 (hch.below hb4.size (fun i hi => by rw [hi]; exact Nat.le_refl _))
  have hs8 := hb8.size
  have hs9 := hch.size
  have hwx : IntKind.u8.wrap (x1 : Int) = x1 := Go.IntWalk.u8_in _ (by omega)
  have hga := grew_alloc w9 (.cells #[.int .u8 (x1 : Int)] 5)
  replace hownc := own_below hownc hga
  replace hT5 := hT5.of hga
  replace hb4 := Grew.trans hb4 hga
  have hsA := hga.size
  clear hT4 hch hga hx1
  go_wp2_with (at_builtin; refine wpList_append_row rfl (.tmp 51) (.tmp 55) rfl w7.heap.size elem_u8 (by rfl) (hown8.alloc _) _ (by rfl) (by rfl) (Blk.row (Blk.new w9 5 #[.int .u8 (x1 : Int)])) (by simp [Value.oneCell']) (by unfold maxLen; omega) (by omega) (by simp; omega) ?_; intro A10 c10 w10 hown10 hg10 _)
  have hown8A := hown8.alloc (.cells #[.int .u8 (x1 : Int)] 5)
  have hT10 := tape_own hT5 hown8A hg10 (by decide) (by omega)
  have hc10 : Ch (fun k => (Value.slice A8 bs.length c8).ownBlock = some k) _ w10 := Ch.of_own hg10
  have hl8 := own_lt hown8
  replace hownc := own_ch hownc hc10 (fun i hi h => by have := hcl i hi; have := hl8 i h; omega)
  replace hb4 : Below w.heap.size w w10 := Below.trans (B := w.heap.size) hb4 (hc10.below hb4.size (fun i hi => by have := hl8 i hi; omega))
  replace hown10 := own_mono hown10 (base' := w7.heap.size) (Nat.le_refl _)
  have hs10 := hc10.size
  clear hown8 hown8A hg10 hc10 hT5 hl8
  refine (tapeNext_any _ _ _ (bs.length : Nat) _ hT10 (by omega) (by omega)).mono ?_
  rintro e w11 ⟨x2, rfl, hx2, hT11, hch⟩
  have hx2b : x2 < bs.length := by omega
  replace hown10 := own_ch hown10 hch (fun i hi h => by have := own_lt hown10 i hi; have h2 : i = w.heap.size := h; omega)
  replace hownc := own_ch hownc hch (fun i hi h => by have := own_lt hownc i hi; have h2 : i = w.heap.size := h; omega)
  replace hb4 : Below w.heap.size w w11 := Below.trans (B := w.heap.size) hb4 (hch.below hb4.size (fun i hi => by rw [hi]; exact Nat.le_refl _))
  have hs11 := hch.size
  have hrow2 := row_take (own_row hownc) x2
  clear hT10 hch hx2 hcl
  go_upto_region 9 with (first | (at_builtin; refine wpList_append_row rfl (.const (.slice none 0 0)) (.tmp 62) rfl w11.heap.size elem_u8 (by rfl) (World.ownsRow_nil _ _ _ _) _ (by rfl) (by simp; omega) hrow2 (fun u hu => ones_u8 bs u (List.mem_of_mem_take hu)) (by unfold maxLen; omega) (by omega) (Nat.le_refl _) ?_; intro A12 c12 w12 hown12 hg12 _; have hb12 : Grew w11 w12 := grew_nil hg12; have hownc12 := own_below hownc hb12) | (at_builtin; refine wpList_append_row rfl (.const (.slice none 0 0)) (.tmp 65) rfl (w12.alloc (.cells #[.slice R rs.length rc, .slice (some ac) bs.length cc, .slice A10 (bs.length + 1) c10, .slice A12 x2 c12] 34)).heap.size elem_u8 (by rfl) (World.ownsRow_nil _ _ _ _) _ (by rfl) (by simp) (own_row (hownc12.alloc (.cells #[.slice R rs.length rc, .slice (some ac) bs.length cc, .slice A10 (bs.length + 1) c10, .slice A12 x2 c12] 34))) (ones_u8 bs) (by unfold maxLen; omega) (by omega) (Nat.le_refl _) ?_; intro A13 c13 w13 hown13 hg13 _; have hb13 : Grew (w12.alloc (.cells #[.slice R rs.length rc, .slice (some ac) bs.length cc, .slice A10 (bs.length + 1) c10, .slice A12 x2 c12] 34)) w13 := grew_nil hg13))
  rw [List.nil_append, Nat.zero_add] at hown12 hown13
  have hgB := grew_alloc w12 (.cells #[.slice R rs.length rc, .slice (some ac) bs.length cc, .slice A10 (bs.length + 1) c10, .slice A12 x2 c12] 34)
  have hListB : (w12.alloc (.cells #[.slice R rs.length rc, .slice (some ac) bs.length cc, .slice A10 (bs.length + 1) c10, .slice A12 x2 c12] 34)).ownsRow w12.heap.size 34 1 (.slice (some ⟨w12.heap.size, 0, none⟩) 4 4) 4 #[.slice R rs.length rc, .slice (some ac) bs.length cc, .slice A10 (bs.length + 1) c10, .slice A12 x2 c12].toList := own_lit w12 w12.heap.size 34 #[.slice R rs.length rc, .slice (some ac) bs.length cc, .slice A10 (bs.length + 1) c10, .slice A12 x2 c12] (Nat.le_refl _) (by unfold maxLen; simp)
  have hg1 := hb12.trans (hgB.trans hb13)
  have hs13 := (hgB.trans hb13).size
  have hl12 : ∀ i, (Value.slice A12 x2 c12).ownBlock = some i → i < w12.heap.size := fun i hi => (hown12.lt i hi).2
  have hl10 : ∀ i, (Value.slice A10 (bs.length + 1) c10).ownBlock = some i → i < w12.heap.size := fun i hi => Nat.lt_of_lt_of_le (hown10.lt i hi).2 hb12.size
  have hlc : ∀ i, (Value.slice (some ac) bs.length cc).ownBlock = some i → i < w12.heap.size := fun i hi => (hownc12.lt i hi).2
  replace hown12 := own_below hown12 (hgB.trans hb13)
  replace hListB := own_below hListB hb13
  replace hown13 := own_mono hown13 (base' := w12.heap.size + 1) (by simp)
  replace hownc := own_below hownc hg1
  replace hown10 := own_below hown10 hg1
  replace hT11 := hT11.of hg1
  replace hb4 := Grew.trans hb4 hg1
  have hs12 := hb12.size
  clear hg12 hg13 hb12 hb13 hgB hg1 hrow2 hownc12
  have hw13 := hT11.lt
  obtain ⟨gs, rfl⟩ : ∃ gs, A13 = some ⟨gs, 0, none⟩ := by
    rcases hown13.2 with ⟨_, h⟩ | ⟨g, _, _, h, _⟩
    · omega
    · injection h with h; exact ⟨g, h⟩
  have hav : w12.heap.size + 1 ≤ gs := own_lt hown13 _ rfl
  refine wp_region_cls (Ch (At w.heap.size) w13) 12 (by kernel_rfl) ?_
  have hc0 := (Ch.refl (At w.heap.size) w13).drew
  refine AllC.head 0 4 (fuel := 9) (by first | exact fun h k => Grew.trans h k | exact fun h k => cls_grew h k) (hc0) (by rfl) (by kernel_rfl) ?_
  simp only [List.take_succ_cons, List.take_zero, List.drop_succ_cons, List.drop_zero]
  repeat (first
    | (refine HeadC.val (by rfl) ?_
       apply Exists.intro
       refine ⟨fun w' hw' => ?_, ?_⟩
       · (have hf_0 := hc0; (go_simp) <;> (try go_ints) <;> with_reducible rfl)
       try simp only [Act.put, List.setIfInBounds_toArray, List.set_cons_zero, List.set_cons_succ])
    | (refine HeadC.shut (by rfl) ?_
       try simp only [Act.put, List.setIfInBounds_toArray, List.set_cons_zero, List.set_cons_succ]))
  refine HeadC.nil ?_
  refine AllC.head 7 1 (fuel := 8) (by first | exact fun h k => Grew.trans h k | exact fun h k => cls_grew h k) (hc0) (by rfl) (by kernel_rfl) ?_
  simp only [List.take_succ_cons, List.take_zero, List.drop_succ_cons, List.drop_zero]
  repeat (first
    | (refine HeadC.val (by rfl) ?_
       apply Exists.intro
       refine ⟨fun w' hw' => ?_, ?_⟩
       · (have hf_0 := hc0; (go_simp) <;> (try go_ints) <;> with_reducible rfl)
       try simp only [Act.put, List.setIfInBounds_toArray, List.set_cons_zero, List.set_cons_succ])
    | (refine HeadC.shut (by rfl) ?_
       try simp only [Act.put, List.setIfInBounds_toArray, List.set_cons_zero, List.set_cons_succ]))
  refine HeadC.nil ?_
  refine AllC.one 4 (by kernel_rfl) rfl ?_
  intro wg hg K hK
  go_simp
  refine (tapeNext_any _ _ _ (bs.length : Nat) _ (hT11.of ((grew_drew _).trans hg)) (by omega) (by omega)).mono ?_
  rintro e w14 ⟨x3, rfl, hx3, hT14, hch⟩
  have hx3b : x3 < bs.length := by omega
  have hc1 : Ch (At w.heap.size) w13 w14 := (hc0.next hg).trans hch
  refine hK.out _ _ hc1 ?_
  clear hK K hg hch hx3 hT11 wg
  try simp only [Act.put, List.setIfInBounds_toArray, List.set_cons_zero, List.set_cons_succ]
  have hx3I : (x3 : Int) < (bs.length : Int) := by omega
  have hcx : w13.cell? ⟨gs, x3, none⟩ = some (.int .u8 bs[x3]) := by
    rw [hown13.cellAt x3 (by omega), List.getElem?_map, List.getElem?_eq_getElem hx3b]; rfl
  have hnx : ¬ At w.heap.size gs := by
    intro h
    have h2 : gs = w.heap.size := h
    omega
  refine AllC.head 5 2 (fuel := 5) (by first | exact fun h k => Grew.trans h k | exact fun h k => cls_grew h k) (hc1) (by rfl) (by kernel_rfl) ?_
  simp only [List.take_succ_cons, List.take_zero, List.drop_succ_cons, List.drop_zero]
  repeat (first
    | (refine HeadC.val (by rfl) ?_
       apply Exists.intro
       refine ⟨fun w' hw' => ?_, ?_⟩
       · (have hf_0 := hw'.cell hcx hnx; (go_simp) <;> (try go_ints) <;> with_reducible rfl)
       try simp only [Act.put, List.setIfInBounds_toArray, List.set_cons_zero, List.set_cons_succ])
    | (refine HeadC.shut (by rfl) ?_
       try simp only [Act.put, List.setIfInBounds_toArray, List.set_cons_zero, List.set_cons_succ]))
  refine HeadC.nil ?_
  refine AllC.one 8 (by kernel_rfl) rfl ?_
  intro wg hg K hK
  go_simp
  replace hT14 := hT14.of hg
  replace hc1 := hc1.next hg
  refine (tapeNext_any _ _ _ 8 _ hT14 (by omega) (by omega)).mono ?_
  rintro e w15 ⟨x4, rfl, hx4, hT15, hch⟩
  have hx4b : x4 < 8 := by omega
  replace hc1 := hc1.trans hch
  refine hK.out _ _ hc1 ?_
  clear hK K hg hch hx4 hT14 wg
  try simp only [Act.put, List.setIfInBounds_toArray, List.set_cons_zero, List.set_cons_succ]
  refine AllC.head 9 3 (fuel := 1) (by first | exact fun h k => Grew.trans h k | exact fun h k => cls_grew h k) (hc1) (by rfl) (by kernel_rfl) ?_
  simp only [List.take_succ_cons, List.take_zero, List.drop_succ_cons, List.drop_zero]
  repeat (first
    | (refine HeadC.val (by rfl) ?_
       apply Exists.intro
       refine ⟨fun w' hw' => ?_, ?_⟩
       · (have hf_0 := hc1; (go_simp) <;> (try go_ints) <;> with_reducible rfl)
       try simp only [Act.put, List.setIfInBounds_toArray, List.set_cons_zero, List.set_cons_succ])
    | (refine HeadC.shut (by rfl) ?_
       try simp only [Act.put, List.setIfInBounds_toArray, List.set_cons_zero, List.set_cons_succ]))
  refine HeadC.nil ?_
  have hv0 := bits_lo_u8 .xor bs[x3] ((2 : Int) ^ x4 % 256)
  have hv1 := bits_hi_u8 .xor bs[x3] ((2 : Int) ^ x4 % 256)
  generalize bits .xor .u8 bs[x3] ((2 : Int) ^ x4 % 256) = v at *
  refine AllC.tail 12 (by rfl) (by kernel_rfl) ?_
  intro wt hwt
  simp only [List.drop_succ_cons, List.drop_zero]
  replace hc1 := hc1.next hwt
  have hcz := hc1.cell hcx hnx
  replace hown13 := own_ch hown13 hc1 (fun i hi h => by have := own_lt hown13 i hi; have h2 : i = w.heap.size := h; omega)
  replace hown12 := own_ch hown12 hc1 (fun i hi h => by have := own_lt hown12 i hi; have h2 : i = w.heap.size := h; omega)
  replace hown10 := own_ch hown10 hc1 (fun i hi h => by have := own_lt hown10 i hi; have h2 : i = w.heap.size := h; omega)
  replace hownc := own_ch hownc hc1 (fun i hi h => by have := own_lt hownc i hi; have h2 : i = w.heap.size := h; omega)
  replace hListB := own_ch hListB hc1 (fun i hi h => by have := own_lt hListB i hi; have h2 : i = w.heap.size := h; omega)
  replace hb4 : Below w.heap.size w wt := Below.trans (B := w.heap.size) hb4 (hc1.below hb4.size (fun i hi => by rw [hi]; exact Nat.le_refl _))
  have hfz := hown13.frozenAt x3
  have hst := hown13.stored x3 (.int .u8 v)
  have hkS : Ch (At gs) wt (wt.setCell ⟨gs, x3, none⟩ (.int .u8 v)) := Ch.of_grown hst.2
  replace hown12 := own_ch hown12 hkS (fun i hi h => by have := hl12 i hi; have h2 : i = gs := h; omega)
  replace hown10 := own_ch hown10 hkS (fun i hi h => by have := hl10 i hi; have h2 : i = gs := h; omega)
  replace hownc := own_ch hownc hkS (fun i hi h => by have := hlc i hi; have h2 : i = gs := h; omega)
  replace hListB := own_ch hListB hkS (fun i hi h => by injection hi with h1; have h2 : i = gs := h; have h3 : w12.heap.size = i := h1; omega)
  replace hb4 : Below w.heap.size w (wt.setCell ⟨gs, x3, none⟩ (.int .u8 v)) := Below.trans (B := w.heap.size) hb4 (hkS.below hb4.size (fun i hi => by have h2 : i = gs := hi; omega))
  replace hown13 := hst.1
  have hwl : w12.heap.size ≤ (wt.setCell ⟨gs, x3, none⟩ (.int .u8 v)).heap.size := by have h1 := hc1.size; have h2 := hkS.size; omega
  have hBx := HB.out _ (List.getElem_mem hx3b)
  generalize bs[x3] = z3 at *
  clear hst hkS hc1 hwt hl12 hl10 hlc
  go_upto_region 10 with (fail)
  generalize wt.setCell ⟨gs, x3, none⟩ (.int .u8 v) = ws at *
  have hgC := grew_alloc ws (.cells #[.slice (some ⟨gs, 0, none⟩) bs.length c13] 34)
  have hsC := hgC.size
  go_wp2_with (at_builtin; refine wpList_append_row rfl (.tmp 79) (.tmp 81) rfl w12.heap.size elem_bytes (by rfl) (hListB.alloc _) _ (by rfl) (by rfl) (Blk.row (Blk.new ws 34 #[.slice (some ⟨gs, 0, none⟩) bs.length c13])) (by simp [Value.oneCell']) (by unfold maxLen; omega) (by omega) (by simp; omega) ?_; intro A17 c17 w17 hown17 hg17 _)
  have hne : ∀ {base : Nat} {A : Option Addr} {n c : Nat} {xs : List Value}, ws.ownsRow base 5 1 (.slice A n c) n xs → w17.ownsRow base 5 1 (.slice A n c) n xs := fun h =>
    own_ch (own_below h hgC) (Ch.of_own hg17) (fun i hi => own_own_ne (own_below h hgC) (own_below hListB hgC) (by decide) i hi)
  replace hown13 := hne hown13
  replace hown12 := hne hown12
  replace hown10 := hne hown10
  replace hownc := hne hownc
  have hb17 : Below w.heap.size w w17 := Below.trans (B := w.heap.size) hb4 (Below.trans (B := w.heap.size) (hgC.mono hb4.size) ((Ch.of_own hg17).below (by omega) (fun i hi => by have := own_lt hListB i hi; omega)))
  have hP0 : DecP w17 ⟨R, rc, rs⟩ := ⟨(hraw.below hb17 (Nat.le_refl _)).more hb17.size, HRB.out, hrc, hrm⟩
  have hP1 : DecP w17 ⟨some ac, cc, bs⟩ := ⟨own_row hownc, HB.out, hcc, by show bs.length ≤ _; omega⟩
  have hP2 : DecP w17 ⟨A10, c10, bs ++ [(x1 : Int)]⟩ := ⟨by rw [List.map_append]; exact own_row hown10, byt_snoc HB.out (by omega) (by omega), by rw [List.length_append]; exact (own_cap hown10).1, by show (bs ++ [(x1 : Int)]).length ≤ _; rw [List.length_append, List.length_singleton]; omega⟩
  have hP3 : DecP w17 ⟨A12, c12, bs.take x2⟩ := ⟨by rw [List.map_take]; exact own_row hown12, byt_take HB.out x2, by show (bs.take x2).length ≤ _; rw [List.length_take]; have := (own_cap hown12).1; show _ ≤ c12; omega, by show (bs.take x2).length ≤ _; rw [List.length_take]; omega⟩
  have hP4 : DecP w17 ⟨some ⟨gs, 0, none⟩, c13, bs.set x3 v⟩ := ⟨by rw [List.map_set]; exact own_row hown13, byt_set HB.out x3 hv0 hv1, by show (bs.set x3 v).length ≤ _; rw [List.length_set]; exact (own_cap hown13).1, by show (bs.set x3 v).length ≤ _; rw [List.length_set]; omega⟩
  have hL : w17.ownsRow w12.heap.size 34 1 (.slice A17 5 c17) 5 ([⟨R, rc, rs⟩, ⟨some ac, cc, bs⟩, ⟨A10, c10, bs ++ [(x1 : Int)]⟩, ⟨A12, c12, bs.take x2⟩, ⟨some ⟨gs, 0, none⟩, c13, bs.set x3 v⟩].map Part.v) := by
    have e3 : (bs.take x2).length = x2 := by rw [List.length_take]; omega
    simp only [List.map_cons, List.map_nil, Part.v, List.length_append, List.length_singleton, List.length_set, e3]
    exact hown17
  have hPs : Hid (∀ p ∈ [(⟨R, rc, rs⟩ : Part), ⟨some ac, cc, bs⟩, ⟨A10, c10, bs ++ [(x1 : Int)]⟩, ⟨A12, c12, bs.take x2⟩, ⟨some ⟨gs, 0, none⟩, c13, bs.set x3 v⟩], DecP w17 p) := Lib.hid (fun p hp => by
    simp only [List.mem_cons, List.not_mem_nil, or_false] at hp
    rcases hp with rfl | rfl | rfl | rfl | rfl <;> assumption)
  generalize hq5 : [(⟨R, rc, rs⟩ : Part), ⟨some ac, cc, bs⟩, ⟨A10, c10, bs ++ [(x1 : Int)]⟩, ⟨A12, c12, bs.take x2⟩, ⟨some ⟨gs, 0, none⟩, c13, bs.set x3 v⟩] = qs at *
  have hql : qs.length = 5 := by rw [← hq5]; rfl
  have HQL := Lib.hid hql
  have hrl := own_row hL
  clear hq5 hql hL hP0 hP1 hP2 hP3 hP4 hown17 hown13 hown12 hown10 hownc hListB hg17 hgC hne hcx hcz hfz hsC hwl
  go_loopw [13] (fun i wr => ∃ k : Nat, k ≤ 5 ∧ i = .int .i64 k ∧ Grew w17 wr) (fun i _ => 5 - (intOf i).toNat)
  case atStart => exact ⟨0, by omega, rfl, Grew.refl _⟩
  case round =>
    obtain ⟨k, hk, rfl, hgr⟩ := hrel
    by_cases hlt : k < 5
    · have hltI : (k : Int) < 5 := by omega
      have hkq : k < qs.length := by rw [HQL.out]; exact hlt
      obtain ⟨ad, rfl, hbl, hc⟩ := part_at (hrl.up hgr (Nat.le_refl _)) hkq
      have hP := (hPs.out _ (List.getElem_mem hkq)).up hgr
      generalize qs[k] = q at *
      obtain ⟨pA, pc, zs⟩ := q
      obtain ⟨h1, h2, h3, h4⟩ := hP
      obtain ⟨l, hl1, hl2, hl3⟩ := byt_nat h2
      simp only at h1 h3 h4 hc hl1 hl3
      rw [hl1] at h1
      have HL2 := Lib.hid hl2
      have HD1 := decode_any pA pc wr.heap.size l wr h1 (Nat.le_refl _) hl2 (by omega) (by omega)
      have HD2 := Lib.hid (fun W (hg : Grew wr W) => refDecode_any pA pc wr.heap.size l W (h1.up hg (Nat.le_refl _)) hg.size HL2.out (by omega) (by omega))
      rw [hl3] at HD1 HD2
      clear h1 h2 hl1 hl2 hkq
      go_wp2_with fail
      refine HD1.mono ?_
      rintro e w18 ⟨Ax, cx, rfl, hrx, hwx, hg18⟩
      replace hg18 : Grew wr w18 := hg18
      have HD3 := HD2.out w18 hg18
      have hgA := grew_alloc w18 (.cells #[.int .i64 (decN l), .slice Ax (decL l).length cx] 31)
      have kX := Blk.new w18 31 #[.int .i64 (decN l), .slice Ax (decL l).length cx]
      have hdl := decL_len l
      have HD4 := Lib.hid (fun W (hg : Grew w18 W) => HD2.out W (hg18.trans hg))
      replace hrx := (hrx.up hgA (Nat.le_refl _)).more hgA.size
      have hc18 := cell_up (hg18.trans hgA) hc
      have hgr18 := hgr.trans (hg18.trans hgA)
      generalize hdn : decN l = dn at *
      generalize hdL : decL l = dL at *
      generalize hde : decE l = de at *
      have HDn := Lib.hid hdn
      have HDL := Lib.hid hdL
      have HDe := Lib.hid hde
      clear hdn hdL hde HD1 HD2 HD3
      go_upto_region 15 with (fail)
      replace HD4 := HD4.out _ hgA
      generalize w18.alloc (.cells #[.int .i64 dn, .slice Ax dL.length cx] 31) = w19 at *
      generalize w18.heap.size = gx at *
      go_wp2_with fail
      refine HD4.mono ?_
      rintro e w20 ⟨Ay, cy, rfl, hry, hwy, hg20⟩
      replace hg20 : Grew w19 w20 := hg20
      rw [HDn.out, HDL.out, HDe.out] 
      rw [HDL.out] at hry
      have hgB := grew_alloc w20 (.cells #[.int .i64 dn, .slice Ay dL.length cy] 31)
      have kY := Blk.new w20 31 #[.int .i64 dn, .slice Ay dL.length cy]
      replace hry := (hry.up hgB (Nat.le_refl _)).more hgB.size
      replace hrx := (hrx.up (hg20.trans hgB) (Nat.le_refl _)).more (hg20.trans hgB).size
      replace kX := kX.of (hg20.trans hgB)
      have hgr20 := hgr18.trans (hg20.trans hgB)
      have hx0 := (kX.cell 0).trans (show _ = some (.int .i64 dn) from rfl)
      have hx1 := (kX.cell 1).trans (show _ = some (.slice Ax dL.length cx) from rfl)
      have hy0 := (kY.cell 0).trans (show _ = some (.int .i64 dn) from rfl)
      have hy1 := (kY.cell 1).trans (show _ = some (.slice Ay dL.length cy) from rfl)
      clear HD4 hg20 hgB hgr18 hgr hwx hwy hc18 hc kX kY
      go_upto_region 16 with (fail)
      have HS := Lib.hid (fun W (hg : Grew _ W) => same25_yes dn Ax Ay cx cy W.heap.size dL W ((hrx.up hg (Nat.le_refl _)).more hg.size) ((hry.up hg (Nat.le_refl _)).more hg.size) (Nat.le_refl _) (by omega))
      generalize w20.alloc (.cells #[.int .i64 dn, .slice Ay dL.length cy] 31) = w21 at *
      generalize w20.heap.size = gy at *
      go_wp2_with fail
      refine (HS.out _ (Grew.refl _)).mono ?_
      rintro e w22 ⟨rfl, hg22⟩
      go_wp2_with fail
      go_roundw
      case rel => exact ⟨k + 1, by omega, by go_num, hgr20.trans hg22⟩
      case measure => simp [intOf]; omega
    · have hltI : ¬ (k : Int) < 5 := by omega
      go_wp2_with fail
      go_ret
      exact ⟨rfl, Below.trans (B := w.heap.size) hb17 (hgr.mono hb17.size)⟩
end Go.Proofs.Ytnjhipnfhapngaa
