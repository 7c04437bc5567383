/-
  manifest.Range, Assemble: the bytes between two offsets, given chunks.
-/
import Derived.Test.YtnjhipnfhapngaaShelfB
import Derived.Test.YtnjhipnfhapngaaSl25
namespace Go.Proofs.Ytnjhipnfhapngaa
set_option linter.unusedVariables false
set_option linter.unusedSimpArgs false
set_option linter.unnecessarySimpa false
open Go.RowKit
attribute [local go_sem ↓] Go.wp_at_zero Go.wp_at_succ

/-- a piece lies in its chunk -/
theorem slK_bd {f t : Int} {l : List IdZ} : ∀ k, k ≤ l.length → ∀ p ∈ slK f t l k, ∃ (i a c : Nat), p = (i, (a : Int), (c : Int)) ∧ ∃ h : i < l.length, a < c ∧ (c : Int) ≤ l[i].2 := by
  intro k
  induction k with
  | zero => intro _ p hp; simp [slK] at hp
  | succ k ih =>
    intro hk p hp
    rw [slK_succ (by omega : k < l.length), List.mem_append] at hp
    rcases hp with hp | hp
    · exact ih (by omega) p hp
    · unfold pcAt at hp
      split at hp
      · rename_i hlt
        rw [List.mem_singleton] at hp
        subst hp
        refine ⟨k, (max (f - sumN (l.take k)) 0).toNat, (min (t - sumN (l.take k)) l[k].2).toNat, ?_, by omega, by omega, by omega⟩
        rw [Int.toNat_of_nonneg (by omega), Int.toNat_of_nonneg (by omega)]
      · simp at hp
theorem pcsC_get (l : List PcZ) : ∀ k (h : k < l.length), (pcsC l)[k * 3]? = some (.int .i64 (l[k].1 : Nat)) ∧ (pcsC l)[k * 3 + 1]? = some (.int .i64 l[k].2.1) ∧ (pcsC l)[k * 3 + 2]? = some (.int .i64 l[k].2.2) := by
  induction l with
  | nil => intro k h; simp at h
  | cons x l ih =>
    intro k h
    cases k with
    | zero => exact ⟨rfl, rfl, rfl⟩
    | succ k =>
      have hk : k < l.length := by simpa using h
      obtain ⟨h0, h1, h2⟩ := ih k hk
      have e : pcsC (x :: l) = .int .i64 x.1 :: .int .i64 x.2.1 :: .int .i64 x.2.2 :: pcsC l := rfl
      rw [e, show (k + 1) * 3 = k * 3 + 1 + 1 + 1 by omega]
      exact ⟨by simpa using h0, by simpa using h1, by simpa using h2⟩
theorem pcs_at {w : World} {B : Nat} {A : Option Addr} {l : List PcZ} (hr : Row w B A (pcsC l)) {k : Nat} (h : k < l.length) :
    ∃ ad : Addr, A = some ad ∧ ad.block < B ∧ w.cell? (ad.add (k * 3)) = some (.int .i64 (l[k].1 : Nat)) ∧ w.cell? ⟨(ad.add (k * 3)).block, (ad.add (k * 3)).off + 1, none⟩ = some (.int .i64 l[k].2.1) ∧
      w.cell? ⟨(ad.add (k * 3)).block, (ad.add (k * 3)).off + 2, none⟩ = some (.int .i64 l[k].2.2) := by
  obtain ⟨g0, g1, g2⟩ := pcsC_get l k h
  have hl := pcsC_len l
  obtain ⟨ad, rfl, hb, hc⟩ := hr.at_ (k := k * 3) (by omega)
  obtain ⟨ad2, e, _, hc2⟩ := hr.at_ (k := k * 3 + 1) (by omega)
  obtain rfl : ad = ad2 := by injection e
  obtain ⟨ad2, e, _, hc3⟩ := hr.at_ (k := k * 3 + 2) (by omega)
  obtain rfl : ad = ad2 := by injection e
  rw [List.getElem?_eq_getElem (by omega)] at g0 g1 g2
  have e1 : (⟨(ad.add (k * 3)).block, (ad.add (k * 3)).off + 1, none⟩ : Addr) = ad.add (k * 3 + 1) := add_add ad (k * 3) 1
  have e2 : (⟨(ad.add (k * 3)).block, (ad.add (k * 3)).off + 2, none⟩ : Addr) = ad.add (k * 3 + 2) := add_add ad (k * 3) 2
  exact ⟨ad, rfl, hb, hc.trans g0, by rw [e1]; exact hc2.trans g1, by rw [e2]; exact hc3.trans g2⟩

/-- the error of a piece, its bytes -/
def pcE (l : List ChZ) (ids : List IdZ) (p : PcZ) : Int := fndE l (ids.getD p.1 (0, 0))
def pcB (l : List ChZ) (ids : List IdZ) (p : PcZ) : List Int := ((fndP l (ids.getD p.1 (0, 0))).zs.drop p.2.1.toNat).take (p.2.2 - p.2.1).toNat
def rgE (l : List ChZ) (ids : List IdZ) : List PcZ → Int
  | [] => 0
  | p :: ps => if pcE l ids p = 0 then rgE l ids ps else pcE l ids p
def rgB (l : List ChZ) (ids : List IdZ) (ps : List PcZ) : List Int := ps.flatMap (pcB l ids)
theorem rgE_ok {l : List ChZ} {ids : List IdZ} : ∀ {ps : List PcZ}, (∀ j (h : j < ps.length), pcE l ids ps[j] = 0) → rgE l ids ps = 0
  | [], _ => rfl
  | p :: ps, h => by
    have h0 : pcE l ids p = 0 := h 0 (by simp)
    rw [rgE, if_pos h0]
    exact rgE_ok (fun j hj => h (j + 1) (by simpa using hj))
theorem rgE_at {l : List ChZ} {ids : List IdZ} : ∀ {ps : List PcZ} {k : Nat} (hk : k < ps.length), (∀ j (h : j < ps.length), j < k → pcE l ids ps[j] = 0) → pcE l ids ps[k] ≠ 0 → rgE l ids ps = pcE l ids ps[k]
  | p :: ps, 0, _, _, h => by rw [rgE, if_neg (by simpa using h)]; rfl
  | p :: ps, k + 1, hk, ha, h => by
    have h0 : pcE l ids p = 0 := ha 0 (by simp) (by omega)
    rw [rgE, if_pos h0]
    simp only [List.getElem_cons_succ] at h ⊢
    exact rgE_at (by simpa using hk) (fun j hj hjk => ha (j + 1) (by simpa using hj) (by omega)) (by simpa using h)
theorem rgB_take {l : List ChZ} {ids : List IdZ} {ps : List PcZ} {k : Nat} (h : k < ps.length) : rgB l ids (ps.take (k + 1)) = rgB l ids (ps.take k) ++ pcB l ids ps[k] := by
  unfold rgB; rw [List.take_succ_eq_append_getElem h, List.flatMap_append]; simp
def rangeE (l : List ChZ) (n : Int) (ids : List IdZ) (f t : Int) : Int := if slE n ids f t = 0 then rgE l ids (slK f t ids ids.length) else slE n ids f t
def rangeB (l : List ChZ) (n : Int) (ids : List IdZ) (f t : Int) : List Int := if rangeE l n ids f t = 0 then rgB l ids (slK f t ids ids.length) else []
/-- a chunk that was found has the length that its ID says -/
theorem fnd_len {l : List ChZ} {x : IdZ} (h : fndE l x = 0) : ∃ c, fstC l x = some c ∧ c ∈ l ∧ idOf c.p.zs = x ∧ fndP l x = c.p ∧ (c.p.zs.length : Int) = x.2 := by
  cases hc : fstC l x with
  | none => rw [(fnd_none hc).1] at h; cases h
  | some c =>
    by_cases hi : idOf c.p.zs = x
    · exact ⟨c, rfl, (fstC_mem hc).1, hi, (fnd_ok hc hi).2, congrArg Prod.snd hi⟩
    · rw [(fnd_bad hc hi).1] at h; cases h
/-- what Range leaves -/
def RangeRes (l : List ChZ) (n : Int) (ids : List IdZ) (f t : Int) (w : World) (e : Ending) (w' : World) : Prop := ∃ (A : Option Addr) (cap : Nat), e = .returned (.tuple #[.slice A (rangeB l n ids f t).length cap, .int .i64 (rangeE l n ids f t)]) ∧
  w'.ownsRow w.heap.size 5 1 (.slice A (rangeB l n ids f t).length cap) (rangeB l n ids f t).length ((rangeB l n ids f t).map (.int .u8)) ∧ Below w.heap.size w w'

set_option maxRecDepth 100000 in
set_option maxHeartbeats 4000000 in
theorem range25_any (n : Int) (A : Option Addr) (cap B : Nat) (ids : List IdZ) (f t : Int) (L : Option Addr) (lc : Nat) (l : List ChZ) (w : World) (hr : Row w B A (idsC ids)) (hw : ∀ x ∈ ids, WfI x) (hl : Row w B L (chsC l)) (hp : LieC w B l) (hok : OkC l) (hB : B ≤ w.heap.size) (hm : ids.length ≤ 9223372036854775807) (hlm : l.length ≤ 1048576) :
    Calls Try.prog 21 #[.agg #[.int .i64 n, .slice A ids.length cap], .slice L l.length lc, .int .i64 f, .int .i64 t] w (RangeRes l n ids f t w) := by
  have gA := grew_alloc w (.cells #[.int .i64 n, .slice A ids.length cap] 31)
  have hC := Blk.new w 31 #[.int .i64 n, .slice A ids.length cap]
  have c0 := (hC.cell 0).trans (show _ = some (.int .i64 n) from rfl)
  have c1 := (hC.cell 1).trans (show _ = some (.slice A ids.length cap) from rfl)
  have hr1 := hr.below gA hB
  have hl1 := hl.below gA hB
  have hp1 := hp.below gA hB
  have hB1 := Nat.le_trans hB gA.size
  have HS := Lib.hid (slice25_any n A cap B ids f t _ hr1 hB1 hm)
  have Hok := Lib.hid hok
  have Hw := Lib.hid hw
  clear hr hl hp hok hw
  go_enter Try.func21, Try.ntmps21
  go_wp2_with fail
  generalize w.alloc (.cells #[.int .i64 n, .slice A ids.length cap] 31) = w1 at *
  generalize hgc : w.heap.size = gc at *
  have HGc := Lib.hid hgc
  clear hgc
  refine HS.out.mono ?_
  rintro e w2 ⟨A2, c2, rfl, hps, hb⟩
  replace hC := hC.of hb
  replace hr1 := hr1.below hb hB1
  replace hl1 := hl1.below hb hB1
  replace hp1 := hp1.below hb hB1
  replace hB1 := Nat.le_trans hB1 hb.size
  replace gA := gA.trans hb
  clear hb HS c0 c1
  by_cases hE : slE n ids f t = 0
  · have hsl : slL n ids f t = slK f t ids ids.length := by unfold slL; rw [if_pos hE]
    obtain ⟨q1, q2, q3, q4⟩ : f ≤ t ∧ 0 ≤ f ∧ t ≤ 1048576 ∧ ids.length ≤ 1024 := by
      unfold slE at hE
      split at hE
      · rename_i hc
        obtain ⟨a1, _, a3, a4⟩ := chkM_zero hc
        split at hE
        · cases hE
        · rename_i hr; omega
      · rename_i hc; exact absurd hE hc
    have HBd := Lib.hid (fun p hp => slK_bd (f := f) (t := t) (l := ids) ids.length (Nat.le_refl _) p hp)
    have HRE := Lib.hid (show rangeE l n ids f t = rgE l ids (slK f t ids ids.length) by unfold rangeE; rw [if_pos hE])
    have HRB := Lib.hid (show rangeB l n ids f t = if rgE l ids (slK f t ids ids.length) = 0 then rgB l ids (slK f t ids ids.length) else [] by unfold rangeB; rw [HRE.out])
    have hplen := slK_len f t ids ids.length
    rw [hsl] at hps
    rw [hE, hsl]
    clear hE hsl
    generalize slK f t ids ids.length = ps at *
    go_wp2_with fail
    have HNS := Lib.hid (newShelf_any L lc B l w2 hl1 hB1 hlm Hok.out)
    refine HNS.out.mono ?_
    rintro e w3 ⟨b1, b2, rfl, hM1, hM2, hbl1, hbl2, hb⟩
    have hgl := hC.lt
    replace hC := hC.of hb
    replace hr1 := hr1.below hb hB1
    replace hl1 := hl1.below hb hB1
    replace hp1 := hp1.below hb hB1
    replace hB1 := Nat.le_trans hB1 hb.size
    replace gA := gA.trans hb
    have hps3 := own_below hps hb
    have hgs := Blk.new w3 94 #[.map (some b1), .map (some b2)]
    have gD := grew_alloc w3 (.cells #[.map (some b1), .map (some b2)] 94)
    replace hC := hC.of gD
    replace hr1 := hr1.below gD hB1
    replace hl1 := hl1.below gD hB1
    replace hp1 := hp1.below gD hB1
    replace hB1 := Nat.le_trans hB1 gD.size
    replace gA := gA.trans gD
    have hps4 := own_below hps3 gD
    replace hM1 := hM1.of gD
    replace hM2 := hM2.of gD
    have hb12 : b1 ≠ b2 := by omega
    have hBb : B ≤ b2 := by omega
    obtain ⟨N, hN⟩ : ∃ N : Nat, t - f = (N : Int) := ⟨(t - f).toNat, by omega⟩
    have hN2 : N ≤ 1048576 := by omega
    obtain ⟨i0, hi, hz0, hz1, hz2⟩ := info_parts (show (Try.prog.info? 5).map (fun i => (i.zero, i.size, i.bytes)) = some (some (.int .u8 0), 1, 1) from by kernel_rfl)
    clear hb HNS hps hps3 gD
    go_upto_region 5 with (fail)
    generalize w3.alloc (.cells #[.map (some b1), .map (some b2)] 94) = wp at *
    generalize w3.heap.size = gs at *
    go_wp2_with (at_make; refine wpList_make_own _ rfl (.const (.int .i64 0)) (.tmp 32) 34 rfl wp.heap.size 5 i0 (.int .u8 0) 1 Try.underlying34 hi hz0 hz1 .i64 .i64 _ N rfl rfl rfl (by rw [hz2]; omega) (by unfold maxLen; omega) (Nat.le_refl _) ?_; intro w4 hown4 hgrow)
    have gk4 : Grew wp w4 := (Below.refl _ _).grown hgrow (Nat.le_refl _) (by simp)
    have hk4 : Ch (At b2) wp w4 := Ch.of_below gk4
    clear hgrow hN hi hz0 hz1 hz2
    have hne2 := hM2.ne_own hps4
    have hnc := Ne.symm (hM2.ne_blk hC)
    have hns := Ne.symm (hM2.ne_blk hgs)
    go_loopw [13, 36] (fun v i wr => ∃ (k : Nat) (A5 : Option Addr) (c5 : Nat) (g : IdZ → Option Value), k ≤ ps.length ∧ i = .int .i64 k ∧ v = .slice A5 (rgB l ids (ps.take k)).length c5 ∧ Hid (∀ j (h : j < ps.length), j < k → pcE l ids ps[j] = 0) ∧ (rgB l ids (ps.take k)).length ≤ 1048576 * k ∧
      wr.ownsRow wp.heap.size 5 1 (.slice A5 (rgB l ids (ps.take k)).length c5) (rgB l ids (ps.take k)).length ((rgB l ids (ps.take k)).map (.int .u8)) ∧ MapIs wr b2 k g ∧ SoundOk l g ∧ Ch (At b2) wp wr) (fun _ i _ => ps.length - (intOf i).toNat)
    case atStart => exact ⟨0, _, N, _, Nat.zero_le _, rfl, rfl, Lib.hid (fun j h h' => absurd h' (Nat.not_lt_zero _)), Nat.zero_le _, hown4, hM2.of gk4, SoundOk.none, hk4⟩
    case round =>
      clear hown4 hk4 gk4
      obtain ⟨k, A5, c5, g, hk, rfl, rfl, HP, hbl, hown, hM2r, hg, hch⟩ := hrel
      have hwr := hch.size
      by_cases hlt : k < ps.length
      · have hpsr := own_ch hps4 hch (fun i hi h => hne2 (by rw [hi]; exact congrArg some h))
        obtain ⟨ad, rfl, hbk, d0, d1, d2⟩ := pcs_at (own_row hpsr) hlt
        obtain ⟨i, a, c, hpe, hil, hac, hcn⟩ := HBd.out ps[k] (List.getElem_mem hlt)
        have hRt := Lib.hid (rgB_take (l := l) (ids := ids) hlt)
        have hRAt := Lib.hid (rgE_at (l := l) (ids := ids) hlt HP.out)
        have HPk := Lib.hid (fun (h0 : pcE l ids ps[k] = 0) j (h : j < ps.length) (hj : j < k + 1) => (show pcE l ids ps[j] = 0 by
          rcases Nat.lt_succ_iff_lt_or_eq.1 hj with h1 | h1
          · exact HP.out j h h1
          · subst h1; exact h0))
        rw [hpe] at d0 d1 d2 hRt hRAt HPk
        simp only at d0 d1 d2
        have hC5 := hC.ch hch hnc
        have hg5 := hgs.ch hch hns
        have hr5 := hr1.ch hch hB1 (fun j hj => by have h' : j = b2 := hj; omega)
        have hl5 : LieC wr B l := fun q hq => (hp1 q hq).ch hch hB1 (fun j hj => by have h' : j = b2 := hj; omega)
        have hM5 := hM1.ch hch (by show ¬ b1 = b2; exact hb12)
        obtain ⟨ad2, rfl, hbk2, x0, x1⟩ := ids_at hr5 hil
        have hwx := Hw.out ids[i] (List.getElem_mem hil)
        have hgd : ids.getD i (0, 0) = ids[i] := by rw [List.getD_eq_getElem?_getD, List.getElem?_eq_getElem hil]; rfl
        have hpE : pcE l ids (i, (a : Int), (c : Int)) = fndE l ids[i] := by unfold pcE; rw [hgd]
        have hpB : pcB l ids (i, (a : Int), (c : Int)) = ((fndP l ids[i]).zs.drop a).take (c - a) := by unfold pcB; rw [hgd]; simp only [Int.toNat_natCast]; rw [show ((c : Int) - a).toNat = c - a by omega]
        rw [hpE] at hRAt HPk
        rw [hpB] at hRt
        clear hgd hpE hpB hpe HP
        generalize ids[i] = x at *
        obtain ⟨xs, xn⟩ := x
        simp only at x0 x1 hcn
        have hil2 : (i : Int) < (ids.length : Int) := by omega
        have hX := Blk.new wr 48 #[.int .i64 i, .int .i64 a, .int .i64 c]
        have gX := grew_alloc wr (.cells #[.int .i64 i, .int .i64 a, .int .i64 c] 48)
        replace hC5 := hC5.of gX
        replace hg5 := hg5.of gX
        replace hM5 := hM5.of gX
        replace hM2r := hM2r.of gX
        replace hl5 := hl5.below gX (Nat.le_trans hB1 hwr)
        replace x0 := cell_up gX x0
        replace x1 := cell_up gX x1
        replace hown := own_below hown gX
        have hch0 := hch.size
        replace hch := hch.next gX
        replace hwr := Nat.le_trans hwr gX.size
        clear gX hr5
        have hMlt := hM2r.lt
        have hnk : ¬ At b2 wr.heap.size := by show ¬ wr.heap.size = b2; have h1 := hM2.lt; have h2 := hch0; omega
        go_upto_region 9 with (fail)
        have cc1 := (hC5.cell 1).trans (show _ = some (.slice (some ad2) ids.length cap) from rfl)
        have gs0 := (hg5.cell 0).trans (show _ = some (.map (some b1)) from rfl)
        have gs1 := (hg5.cell 1).trans (show _ = some (.map (some b2)) from rfl)
        have p0 := (hX.cell 0).trans (show _ = some (.int .i64 (i : Nat)) from rfl)
        have hnx : ¬ At b2 (ad2.add (i * 2)).block := by rw [add_block]; show ¬ ad2.block = b2; omega
        have HBy0 := Lib.hid (fun W (h : Grew (wr.alloc (.cells #[.int .i64 i, .int .i64 a, .int .i64 c] 48)) W) => shelfBytes_any b1 b2 l.length k B l (xs, xn) g W (hM5.of h) (hM2r.of h) hg (by unfold maxLen; omega) (hl5.below h (Nat.le_trans hB1 hwr)) (Nat.le_trans (Nat.le_trans hB1 hwr) h.size) Hok.out hwx)
        generalize wr.alloc (.cells #[.int .i64 i, .int .i64 a, .int .i64 c] 48) = wk at *
        generalize wr.heap.size = gk at *
        clear d0 d1 d2
        by_cases hz : fndE l (xs, xn) = 0
        · obtain ⟨ch, _, hmem, hidd, hfp, hlen⟩ := fnd_len hz
          have HBy := HBy0
          unfold BytesRes at HBy
          rw [hfp, hz] at HBy
          rw [hfp] at hRt
          have HP2 := Lib.hid (HPk.out hz)
          obtain ⟨_, hzb, hzc, hzl⟩ := Hok.out ch hmem
          have hrow := hl5 ch hmem
          simp only at hlen
          clear hfp hz hidd HBy0 HPk hRAt
          obtain ⟨⟨cs, cn⟩, ⟨pA, pc, zs⟩⟩ := ch
          simp only at hlen hzb hzc hzl hrow hRt
          unfold Part.v at HBy
          simp only at HBy
          refine wp_region_cls (Ch (At b2) wk) 12 (by kernel_rfl) ?_
          have hc0 := (Ch.refl (At b2) wk).drew
          refine AllC.head 0 7 (fuel := 6) (by first | exact fun h k => Grew.trans h k | exact fun h k => cls_grew h k) (hc0) (by rfl) (by kernel_rfl) ?_
          simp only [List.take_succ_cons, List.take_zero, List.drop_succ_cons, List.drop_zero]
          repeat (first
            | (refine HeadC.val (by rfl) ?_
               apply Exists.intro
               refine ⟨fun w' hw' => ?_, ?_⟩
               · (have hf_0 := hw'.cell cc1 hnc; have hf_1 := hw'.cell gs0 hns; have hf_2 := hw'.cell gs1 hns; have hf_3 := hw'.cell p0 hnk; have hf_4 := hw'.cell x0 hnx; have hf_5 := hw'.cell x1 hnx; (go_simp) <;> (try go_ints) <;> with_reducible rfl)
               try simp only [Act.put, List.setIfInBounds_toArray, List.set_cons_zero, List.set_cons_succ])
            | (refine HeadC.shut (by rfl) ?_
               try simp only [Act.put, List.setIfInBounds_toArray, List.set_cons_zero, List.set_cons_succ]))
          refine HeadC.nil ?_
          refine AllC.one 7 (by kernel_rfl) rfl ?_
          intro wg hg' K hK
          go_simp
          have hg0 := (grew_drew wk).trans hg'
          refine (HBy.out wg hg0).mono ?_
          rintro e w6 ⟨rfl, ⟨g2, hM6, hg2⟩, hc6⟩
          have hc7 : Ch (At b2) wk w6 := (Ch.of_below hg0).trans hc6
          refine hK.out _ _ hc7 ?_
          clear hK K hg' hg0 hc6 hc0
          try simp only [Act.put, List.setIfInBounds_toArray, List.set_cons_zero, List.set_cons_succ]
          refine AllC.head 8 4 (fuel := 1) (by first | exact fun h k => Grew.trans h k | exact fun h k => cls_grew h k) (hc7) (by rfl) (by kernel_rfl) ?_
          simp only [List.take_succ_cons, List.take_zero, List.drop_succ_cons, List.drop_zero]
          repeat (first
            | (refine HeadC.val (by rfl) ?_
               apply Exists.intro
               refine ⟨fun w' hw' => ?_, ?_⟩
               · ((go_simp) <;> (try go_ints) <;> with_reducible rfl)
               try simp only [Act.put, List.setIfInBounds_toArray, List.set_cons_zero, List.set_cons_succ])
            | (refine HeadC.shut (by rfl) ?_
               try simp only [Act.put, List.setIfInBounds_toArray, List.set_cons_zero, List.set_cons_succ]))
          refine HeadC.nil ?_
          refine AllC.tail 12 (by rfl) (by kernel_rfl) ?_
          intro wt hwt
          simp only [List.drop_succ_cons, List.drop_zero]
          have hc8 := hc7.next hwt
          have hM8 := hM6.of hwt
          have hrow8 : Row wt B pA (zs.map (.int .u8)) := hrow.ch hc8 (Nat.le_trans hB1 hwr) (fun j hj => by have h' : j = b2 := hj; omega)
          obtain ⟨adz, rfl, hbz, _⟩ := hrow8.at_ (k := a) (by rw [List.length_map]; omega)
          have hca : ¬ pc = a := by omega
          have hrc := hrow8.cut' (lo := a) (m := c - a) (cap := pc) (by omega)
          rw [if_neg hca, ← List.map_drop, ← List.map_take] at hrc
          have hll : ((zs.drop a).take (c - a)).length = c - a := by rw [List.length_take, List.length_drop]; omega
          have hlm : (((zs.drop a).take (c - a)).map (Value.int .u8)).length = (c - a) * 1 := by rw [List.length_map, hll, Nat.mul_one]
          have HLL := Lib.hid hll
          have hX8 := hX.ch hc8 hnk
          have p1 := (hX8.cell 1).trans (show _ = some (.int .i64 (a : Nat)) from rfl)
          have p2 := (hX8.cell 2).trans (show _ = some (.int .i64 (c : Nat)) from rfl)
          have hown8 := own_ch hown hc8 (fun j hj h => by have h1 := own_lt hown j hj; have h' : j = b2 := h; have := hM2.lt; omega)
          have hch8 := hch.trans hc8
          have hca2 : (a : Int) ≤ c := by omega
          have hcc2 : (c : Int) ≤ pc := by omega
          have hcn8 : c - a ≤ 1048576 := by omega
          clear hll cc1 gs0 gs1 p0 x0 x1 hwt hc7 hc8 hM6 hX8
          generalize (zs.drop a).take (c - a) = ys at *
          go_wp2_with (at_builtin; refine wpList_append_row rfl (.tmp 54) (.tmp 60) rfl wp.heap.size elem_u8 (by rfl) hown8 B (by rfl) hlm hrc (ones_u8 _) (by unfold maxLen; omega) (by omega) (by have := hch8.size; omega) ?_; intro A9 c9 w9 hown9 hg9 _; have hch9 : Ch (At b2) wp w9 := hch8.nextNew (Ch.of_own hg9) (fun j hj => .inl (own_lt hown8 j hj)); have hM9 := hM8.ch (Ch.of_own hg9) (hM8.ne_own hown8))
          go_roundw
          case rel =>
            refine ⟨k + 1, A9, c9, g2, by omega, by go_num, ?_, Lib.hid HP2.out, ?_, ?_, hM9, hg2, hch9⟩
            · rw [hRt.out, List.length_append, HLL.out]
            · rw [hRt.out, List.length_append, HLL.out]; omega
            · rw [hRt.out, List.length_append, List.map_append, HLL.out]; exact hown9
          case measure => simp [intOf]; omega
        · have HN := Lib.hid hz
          have hne : (fndE l (xs, xn) != 0) = true := by rw [bne_iff_ne]; exact hz
          have HR := Lib.hid (hRAt.out hz)
          have HBy := HBy0
          unfold BytesRes at HBy
          clear HBy0 HPk hRAt hRt hz
          generalize fndE l (xs, xn) = er at *
          generalize (fndP l (xs, xn)).v = pv at *
          refine wp_region_cls (Ch (At b2) wk) 12 (by kernel_rfl) ?_
          have hc0 := (Ch.refl (At b2) wk).drew
          refine AllC.head 0 7 (fuel := 6) (by first | exact fun h k => Grew.trans h k | exact fun h k => cls_grew h k) (hc0) (by rfl) (by kernel_rfl) ?_
          simp only [List.take_succ_cons, List.take_zero, List.drop_succ_cons, List.drop_zero]
          repeat (first
            | (refine HeadC.val (by rfl) ?_
               apply Exists.intro
               refine ⟨fun w' hw' => ?_, ?_⟩
               · (have hf_0 := hw'.cell cc1 hnc; have hf_1 := hw'.cell gs0 hns; have hf_2 := hw'.cell gs1 hns; have hf_3 := hw'.cell p0 hnk; have hf_4 := hw'.cell x0 hnx; have hf_5 := hw'.cell x1 hnx; (go_simp) <;> (try go_ints) <;> with_reducible rfl)
               try simp only [Act.put, List.setIfInBounds_toArray, List.set_cons_zero, List.set_cons_succ])
            | (refine HeadC.shut (by rfl) ?_
               try simp only [Act.put, List.setIfInBounds_toArray, List.set_cons_zero, List.set_cons_succ]))
          refine HeadC.nil ?_
          refine AllC.one 7 (by kernel_rfl) rfl ?_
          intro wg hg' K hK
          go_simp
          have hg0 := (grew_drew wk).trans hg'
          refine (HBy.out wg hg0).mono ?_
          rintro e w6 ⟨rfl, ⟨g2, hM6, hg2⟩, hc6⟩
          have hc7 : Ch (At b2) wk w6 := (Ch.of_below hg0).trans hc6
          refine hK.out _ _ hc7 ?_
          clear hK K hg' hg0 hc6 hc0
          try simp only [Act.put, List.setIfInBounds_toArray, List.set_cons_zero, List.set_cons_succ]
          refine AllC.head 8 4 (fuel := 1) (by first | exact fun h k => Grew.trans h k | exact fun h k => cls_grew h k) (hc7) (by rfl) (by kernel_rfl) ?_
          simp only [List.take_succ_cons, List.take_zero, List.drop_succ_cons, List.drop_zero]
          repeat (first
            | (refine HeadC.val (by rfl) ?_
               apply Exists.intro
               refine ⟨fun w' hw' => ?_, ?_⟩
               · ((go_simp) <;> (try go_ints) <;> with_reducible rfl)
               try simp only [Act.put, List.setIfInBounds_toArray, List.set_cons_zero, List.set_cons_succ])
            | (refine HeadC.shut (by rfl) ?_
               try simp only [Act.put, List.setIfInBounds_toArray, List.set_cons_zero, List.set_cons_succ]))
          refine HeadC.nil ?_
          refine AllC.tail 12 (by rfl) (by kernel_rfl) ?_
          intro wt hwt
          simp only [List.drop_succ_cons, List.drop_zero]
          have hc8 := hc7.next hwt
          have hM8 := hM6.of hwt
          go_wp2_with fail
          go_ret2
          have hfin : Below w.heap.size w wt := Below.trans (B := w.heap.size) gA ((hch.trans hc8).below gA.size (fun j hj => by have h' : j = b2 := hj; rw [HGc.out]; omega))
          have e1 : rangeE l n ids f t = er := by rw [HRE.out, HR.out]
          have e2 : rangeB l n ids f t = [] := by rw [HRB.out, HR.out, if_neg HN.out]
          refine ⟨none, 0, ?_, ?_, hfin⟩
          · rw [e1, e2]; rfl
          · rw [e2]; exact World.ownsRow_nil _ _ _ _
      · obtain rfl : k = ps.length := by omega
        have e0 := rgE_ok (l := l) (ids := ids) (ps := ps) (fun j h => HP.out j h h)
        have HE1 := Lib.hid (show rangeE l n ids f t = 0 by rw [HRE.out, e0])
        have HE2 := Lib.hid (show rangeB l n ids f t = rgB l ids ps by rw [HRB.out, e0, if_pos rfl])
        rw [List.take_length] at hown ⊢
        clear e0 hbl
        go_wp2_with fail
        go_ret2
        have hfin : Below w.heap.size w wr := Below.trans (B := w.heap.size) gA (hch.below gA.size (fun j hj => by have h' : j = b2 := hj; rw [HGc.out]; omega))
        refine ⟨A5, c5, ?_, ?_, hfin⟩
        · rw [HE1.out, HE2.out]; rfl
        · rw [HE2.out]; exact own_mono hown gA.size
  · have HN := Lib.hid hE
    have HRE := Lib.hid (show rangeE l n ids f t = slE n ids f t by unfold rangeE; rw [if_neg hE])
    have HRB := Lib.hid (show rangeB l n ids f t = [] by unfold rangeB; rw [HRE.out, if_neg hE])
    have hne : (slE n ids f t != 0) = true := by rw [bne_iff_ne]; exact hE
    clear hE
    generalize slE n ids f t = er at *
    go_wp2_with fail
    go_ret2
    refine ⟨none, 0, ?_, ?_, gA⟩
    · rw [HRB.out, HRE.out]; rfl
    · rw [HRB.out]; exact World.ownsRow_nil _ _ _ _

end Go.Proofs.Ytnjhipnfhapngaa
