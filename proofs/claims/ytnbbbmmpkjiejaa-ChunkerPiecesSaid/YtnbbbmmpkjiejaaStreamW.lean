/-
  chunker.Stream's Write.
-/
import Derived.Test.YtnbbbmmpkjiejaaStream
namespace Go.Proofs.Ytnbbbmmpkjiejaa
set_option linter.unusedVariables false
set_option linter.unusedSimpArgs false
set_option linter.unnecessarySimpa false
open Go.RowKit
attribute [local go_sem ↓] Go.wp_at_zero Go.wp_at_succ

/-- what holds of Write's lists at the head of its outer loop -/
structure WI (t s g base B : Nat) (c : CutZ) (H Hk : Value) (T rest dn ys rk : List Int) (ls : List Nat) (ps : List Part) (Ab : Option Addr) (cb : Nat) (w wx : World) : Prop where
  row : Row wx B Ab (ys.map (.int .u8))
  off : ∀ ad, Ab = some ad → ¬ StB t s g H ad.block
  cap : ys.length ≤ cb
  txs : Txs wx base ps
  full : FullZ c (rest ++ dn) ls rk
  cuts : ps.map Part.zs = cutsL ls (rest ++ dn)
  far : ∀ p ∈ ps, ∀ ad, p.A = some ad → (H.ownBlock = some ad.block ∨ w.heap.size ≤ ad.block) ∧ ad.block < wx.heap.size ∧ Hk.ownBlock ≠ some ad.block
  old : ∀ k, Hk.ownBlock = some k → H.ownBlock = some k
  stm : Stm wx t s g base c Hk (T ++ dn) rk
  ch : Ch (StB t s g H) w wx

theorem WI.len {t s g base B : Nat} {c : CutZ} {H Hk : Value} {T rest dn ys rk : List Int} {ls : List Nat} {ps : List Part} {Ab : Option Addr} {cb : Nat} {w wx : World} (h : WI t s g base B c H Hk T rest dn ys rk ls ps Ab cb w wx) (ok : c.Ok) :
    ps.length ≤ rest.length + dn.length ∧ rk.length ≤ rest.length + dn.length := by
  have h1 := congrArg List.length h.cuts
  rw [List.length_map, cutsL_length] at h1
  have h2 := h.full.count ok
  have h3 := (h.full.sum ok).2
  rw [List.length_append] at h2
  refine ⟨by omega, ?_⟩
  rw [h3, List.length_drop, List.length_append]; omega
/-- the test of push, said of the chunk -/
theorem stm_stop {c : CutZ} (ok : c.Ok) {T rk ys : List Int} (hs : ∃ pre, T = pre ++ rk) (j : Nat) (hj : j < ys.length) :
    stopT c (T ++ ys.take j ++ [ys[j]]) (rk.length + j + 1) = endL c (rk ++ ys.take j ++ [ys[j]]) ((rk ++ ys.take j).length + 1) := by
  obtain ⟨pre, rfl⟩ := hs
  have h := stop_chunk ok pre (rk ++ ys.take j ++ [ys[j]])
  have hl : (rk ++ ys.take j ++ [ys[j]]).length = (rk ++ ys.take j).length + 1 := by rw [List.length_append, List.length_singleton]
  have hl2 : (rk ++ ys.take j).length = rk.length + j := by rw [List.length_append, List.length_take]; omega
  rw [hl] at h
  rw [← h, hl2]
  unfold stopT
  simp [List.append_assoc]

theorem row_drop {w : World} {B : Nat} {A : Option Addr} {zs : List Int} (h : Row w B A (zs.map (Value.int .u8))) (lo : Nat) : Row w B (A.map (·.add lo)) ((zs.drop lo).map (Value.int .u8)) := by
  have := h.cut lo zs.length
  rwa [List.take_of_length_le (by rw [List.length_drop, List.length_map]; omega), ← List.map_drop] at this
section
variable {t s g base B : Nat} {c : CutZ} {H Hk : Value} {T rest dn ys rk : List Int} {ls : List Nat} {ps : List Part} {Ab : Option Addr} {cb : Nat} {w wo w2 w3 w4 : World}
theorem Stm.ne_ts {T' : List Int} (h : Stm wo t s g base c Hk T' rk) : t ≠ s ∧ t ≠ g ∧ s ≠ g ∧ Hk.ownBlock ≠ some t ∧ Hk.ownBlock ≠ some s ∧ Hk.ownBlock ≠ some g := by
  refine ⟨h.blk.ne_ h.scn.blk (by decide), ?_, h.scn.ne, own_blk_ne h.own h.blk (by decide), own_blk_ne h.own h.scn.blk (by decide), h.scn.rol.ne_own h.own (by decide)⟩
  obtain ⟨_, _, hB', _⟩ := h.scn.rol.ex
  exact h.blk.ne_ hB' (by decide)
/-- a row that is no block of the stream's -/
theorem Stm.ne_own {T' : List Int} {e : TypeId} {size n b : Nat} {v : Value} {xs : List Value} (h : Stm wo t s g base c Hk T' rk) (ho : wo.ownsRow b e size v n xs) (h1 : e ≠ 73) (h2 : e ≠ 71) (h3 : e ≠ 80) (h4 : e ≠ 5) :
    ∀ k, v.ownBlock = some k → ¬ StB t s g Hk k := by
  intro k hk
  rintro ((h' | h' | h') | h')
  · subst h'; exact own_blk_ne ho h.blk h1 hk
  · subst h'; exact own_blk_ne ho h.scn.blk h2 hk
  · subst h'; exact h.scn.rol.ne_own ho h3 hk
  · exact own_own_ne ho h.own h4 k hk h'
theorem Stm.notBytes {T' : List Int} (h : Stm wo t s g base c Hk T' rk) {i : Nat} (hi : i = t ∨ i = s ∨ i = g) : ∀ cs fr, wo.heap[i]? ≠ some (.cells cs 5 fr) := by
  intro cs fr
  obtain ⟨_, _, hB', _⟩ := h.scn.rol.ex
  rcases hi with rfl | rfl | rfl
  · exact blk_noBytes h.blk (by decide) _ cs fr rfl
  · exact blk_noBytes h.scn.blk (by decide) _ cs fr rfl
  · exact blk_noBytes hB' (by decide) _ cs fr rfl
theorem at2_stb {H : Value} {k : Nat} (h : At2 s g k) : StB t s g H k := .inl (.inr h)
theorem cut_stb {H : Value} {k : Nat} (h : k = t ∨ H.ownBlock = some k) : StB t s g H k := h.elim (fun h => .inl (.inl h)) .inr
theorem WI.sub (hI : WI t s g base B c H Hk T rest dn ys rk ls ps Ab cb w wo) {k : Nat} (h : StB t s g Hk k) : StB t s g H k := h.imp id (hI.old k)

/-- a chunk was cut off -/
theorem WI.hit (hI : WI t s g base B c H Hk T rest dn ys rk ls ps Ab cb w wo) (ok : c.Ok) {j : Nat} (hj : j < ys.length) (hB : B ≤ w.heap.size) (hbase : base ≤ w.heap.size)
    (hst : endL c (rk ++ ys.take j ++ [ys[j]]) ((rk ++ ys.take j).length + 1) = true) (hno : nxtL c (rk ++ ys.take j) = none)
    (k2 : Ch (At2 s g) wo w2) (hS2 : Scn w2 s g c (T ++ dn ++ ys.take j ++ [ys[j]]) 0) {ck : List Int} (hck : ck = rk ++ ys.take (j + 1))
    {A3 : Option Addr} (hT3 : Tx w3 base ⟨A3, ck.length, ck⟩) (hA3 : ∀ ad, A3 = some ad → (Hk.ownBlock = some ad.block ∨ w2.heap.size ≤ ad.block) ∧ ad.block < w3.heap.size)
    (hB3 : Blk w3 t 73 #[.pointer (some ⟨s, 0, none⟩), .slice none 0 0]) (hch3 : Ch (fun k => k = t ∨ Hk.ownBlock = some k) w2 w3)
    {v : Value} {n : Nat} {xs : List Value} (hown : wo.ownsRow w.heap.size 30 1 v n xs) {o : Obj} (hg4 : (w3.alloc o).grownBy w4 v.ownBlock)
    {Ab' : Option Addr} {cb' : Nat} (hrow : ∀ wx, Row wx B Ab (ys.map (.int .u8)) → Row wx B Ab' ((ys.drop (j + 1)).map (.int .u8))) (hblk : ∀ ad', Ab' = some ad' → ∃ ad, Ab = some ad ∧ ad.block = ad'.block) (hcap : ys.length - (j + 1) ≤ cb') :
    WI t s g base B c H (.slice none 0 0) T rest (dn ++ ys.take (j + 1)) (ys.drop (j + 1)) [] (ls ++ [ck.length]) (ps ++ [⟨A3, ck.length, ck⟩]) Ab' cb' w w4 := by
  obtain ⟨hts, htg, hsg, hot, hos, hog⟩ := hI.stm.ne_ts
  have hvs := hI.stm.ne_own hown (by decide) (by decide) (by decide) (by decide)
  have hga : Grew w3 (w3.alloc o) := grew_alloc w3 o
  have k23 : Ch (StB t s g Hk) wo w3 := (k2.mono fun _ _ h => at2_stb h).trans (hch3.mono fun _ _ h => cut_stb h)
  have k4 : Ch (fun k => v.ownBlock = some k) w3 w4 := (Ch.of_below hga).trans (Ch.of_own hg4)
  have hwv : ∀ k, v.ownBlock = some k → w.heap.size ≤ k := own_lt hown
  have hws := hI.ch.size
  have hck2 : ck = rk ++ ys.take j ++ [ys[j]] := by rw [hck, List.take_succ_eq_append_getElem hj, List.append_assoc]
  have hckl : ck.length = (rk ++ ys.take j).length + 1 := by rw [hck2, List.length_append, List.length_singleton]
  have hnx : nxtL c ck = some ck.length := by
    have := nxtL_snoc (b := ys[j]) hno
    rw [if_pos hst] at this
    rw [hckl, hck2]; exact this
  have hone : FullZ c ck [ck.length] [] := FullZ.one hnx
  have hsplit : rest ++ (dn ++ ys.take (j + 1)) = (rest ++ dn) ++ ys.take (j + 1) := (List.append_assoc _ _ _).symm
  have hnb : ∀ i, v.ownBlock = some i → ∀ cs fr, w3.heap[i]? ≠ some (.cells cs 5 fr) := fun i hi cs fr => by
    have ho3 := own_ch hown k23 hvs
    exact own_noBytes ho3 (by decide) i cs fr hi
  refine ⟨?_, fun ad' e => ?_, by rw [List.length_drop]; exact hcap, ?_, ?_, ?_, ?_, (fun k h => by cases h), ⟨?_, World.ownsRow_nil _ _ _ _, ?_, ⟨T ++ (dn ++ ys.take (j + 1)), (List.append_nil _).symm⟩, nxtL_nil⟩, ?_⟩
  · refine hrow _ ?_
    refine (hI.row.chA k23 (Nat.le_trans hB hws) (fun ad e h => hI.off ad e (hI.sub h))).keep fun p hp => ?_
    have h3 : wo.heap.size ≤ w3.heap.size := k23.size
    exact k4.cellEq (by omega) (fun h => by have := hwv _ h; omega)
  · obtain ⟨ad, e1, e2⟩ := hblk ad' e
    rw [← e2]
    exact hI.off ad e1
  · refine Txs.snoc (fun p hp => ?_) (hT3.chB k4 (fun i hi => .inl (hnb i hi)))
    refine ((hI.txs p hp).chB k23 (fun i hi => ?_)).chB k4 (fun i hi => .inl (hnb i hi))
    rcases hi with hi | hi
    · exact .inl (hI.stm.notBytes hi)
    · exact .inr (fun ad e _ h => (hI.far p hp ad e).2.2 (by rw [h]; exact hi))
  · rw [hsplit]
    exact hI.full.trans (by rw [← hck]; exact hone)
  · rw [hsplit, hI.full.cuts ok, ← hck, cutsL_one, List.map_append, hI.cuts]
    rfl
  · intro p hp ad e
    refine ⟨?_, ?_, fun h => by cases h⟩
    · rcases List.mem_append.1 hp with h | h
      · exact (hI.far p h ad e).1
      · rw [List.mem_singleton] at h
        subst h
        rcases (hA3 ad e).1 with h | h
        · exact .inl (hI.old _ h)
        · have := k2.size; right; omega
    · have s1 := k23.size
      have s2 := k4.size
      rcases List.mem_append.1 hp with h | h
      · have := (hI.far p h ad e).2.1; omega
      · rw [List.mem_singleton] at h
        subst h
        have := (hA3 ad e).2; omega
  · exact hB3.ch k4 (fun h => hvs _ h (.inl (.inl rfl)))
  · have h3 := (hS2.ch hch3 (fun h => h.elim (fun h => hts h.symm) (fun h => hos h)) (fun h => h.elim (fun h => htg h.symm) (fun h => hog h))).ch k4 (fun h => hvs _ h (.inl (.inr (.inl rfl)))) (fun h => hvs _ h (.inl (.inr (.inr rfl))))
    rw [List.append_assoc (T ++ dn), ← List.take_succ_eq_append_getElem hj, List.append_assoc T] at h3
    exact h3
  · exact (hI.ch.trans (k23.mono fun _ _ h => hI.sub h)).nextNew k4 (fun i hi => .inl (hwv i hi))

/-- all bytes are through -/
theorem WI.exit (hI : WI t s g base B c H Hk T rest dn ys rk ls ps Ab cb w wo) (ok : c.Ok) (hbase : base ≤ w.heap.size) (hno : nxtL c (rk ++ ys) = none)
    (k2 : Ch (At2 s g) wo w2) (hS2 : Scn w2 s g c (T ++ dn ++ ys) (rk.length + ys.length)) {H' : Value}
    (hg3 : w2.grownBy w3 Hk.ownBlock) (hown3 : w3.ownsRow base 5 1 H' (rk.length + ys.length) (rk.map (.int .u8) ++ ys.map (.int .u8))) (hwh : H'.ownBlock = Hk.ownBlock ∨ H'.ownBlock = some w2.heap.size)
    {Ap : Option Addr} {cp : Nat} (hown : wo.ownsRow w.heap.size 30 1 (.slice Ap ps.length cp) ps.length (ps.map Part.v)) {zs : List Int} (hz : zs = dn ++ ys) {e : Ending} (he : e = .returned (.slice Ap ps.length cp)) :
    WriteRes t s g base c H (T ++ zs) (rest ++ zs) w e (w3.setCell ⟨t, 1, none⟩ H') := by
  subst hz
  obtain ⟨hts, htg, hsg, hot, hos, hog⟩ := hI.stm.ne_ts
  have hvs := hI.stm.ne_own hown (by decide) (by decide) (by decide) (by decide)
  have k3 : Ch (fun k => Hk.ownBlock = some k) w2 w3 := Ch.of_own hg3
  have k23 : Ch (StB t s g Hk) wo w3 := (k2.mono fun _ _ h => at2_stb h).trans (k3.mono fun _ _ h => .inr h)
  have k4 : Ch (At t) w3 (w3.setCell ⟨t, 1, none⟩ H') := (Ch.refl _ _).set_at 1 H'
  have k24 : Ch (StB t s g Hk) wo (w3.setCell ⟨t, 1, none⟩ H') := k23.trans (k4.mono fun _ _ h => .inl (.inl h))
  have hws := hI.ch.size
  have h2s := k2.size
  have h3s := k3.size
  have hB2 := hI.stm.blk.ch k2 (fun h => h.elim (fun h => hts h) (fun h => htg h))
  have hB3 := hB2.ch k3 hot
  have hot' : H'.ownBlock ≠ some t := own_blk_ne hown3 hB3 (by decide)
  refine ⟨Ap, cp, ps, ls, rk ++ ys, H', he, own_ch hown k24 hvs, fun p hp => ?_, ?_, ?_, fun p hp ad ea => ⟨(hI.far p hp ad ea).1, ?_, ?_⟩, fun k hk => ?_, ⟨hB3.set_ 1 _, ?_, ?_, ?_, hno⟩, hI.ch.trans (k24.mono fun _ _ h => hI.sub h)⟩
  · refine (hI.txs p hp).chB k24 (fun i hi => ?_)
    rcases hi with hi | hi
    · exact .inl (hI.stm.notBytes hi)
    · exact .inr (fun ad e _ h => (hI.far p hp ad e).2.2 (by rw [h]; exact hi))
  · rw [← List.append_assoc]
    have := hI.full.trans (FullZ.stop hno)
    rwa [List.append_nil] at this
  · rw [← List.append_assoc]
    have := hI.full.cuts ok (b := ys) (ls2 := [])
    rw [List.append_nil] at this
    rw [this, hI.cuts]
    simp [cutsL]
  · have := (hI.far p hp ad ea).2.1
    have := k24.size
    omega
  · rcases hwh with h | h
    · rw [h]; exact (hI.far p hp ad ea).2.2
    · rw [h]
      intro h1
      injection h1 with h1
      have := (hI.far p hp ad ea).2.1
      omega
  · rcases hwh with h | h
    · rw [h] at hk; exact .inl (hI.old k hk)
    · rw [h] at hk
      injection hk with hk
      right; omega
  · rw [List.length_append, List.map_append]
    exact own_ch hown3 k4 (fun k hk h => hot' (by rw [hk]; exact congrArg some h))
  · rw [List.length_append]
    have := (hS2.ch k3 hos hog).ch k4 (Ne.symm hts) (Ne.symm htg)
    rwa [List.append_assoc] at this
  · obtain ⟨pre, hp⟩ := hI.stm.suf
    exact ⟨pre, by rw [← List.append_assoc, hp, List.append_assoc]⟩
end

set_option maxHeartbeats 4000000 in
theorem writeS_any (t s g base : Nat) (c : CutZ) (ok : c.Ok) (H : Value) (T rest : List Int) (A : Option Addr) (cap B : Nat) (zs : List Int) (w : World) (hS : Stm w t s g base c H T rest) (hr : Row w B A (zs.map (.int .u8))) (hB : B ≤ w.heap.size) (hbase : base ≤ w.heap.size)
    (hoff : ∀ ad, A = some ad → ¬ StB t s g H ad.block) (hz : ∀ z ∈ zs, 0 ≤ z ∧ z ≤ 255) (hcap : zs.length ≤ cap) (hm : rest.length + zs.length ≤ 1048576) :
    Calls Try.prog 34 #[.pointer (some ⟨t, 0, none⟩), .slice A zs.length cap] w (WriteRes t s g base c H (T ++ zs) (rest ++ zs) w) := by
  have Hz := Lib.hid hz
  have OK := Lib.hid ok
  have hno := hS.no
  have h0 : WI t s g base B c H H T rest [] zs rest [] [] A cap w w := ⟨hr, hoff, hcap, Txs.nil, by rw [List.append_nil]; exact .stop hno, rfl, fun p hp => by simp at hp, fun k h => h, by rw [List.append_nil]; exact hS, Ch.refl _ _⟩
  clear hz ok hno hS hr hoff hcap
  go_enter Try.func34, Try.ntmps34
  go_wp2_with fail
  go_step3
  go_wp2_with fail
  go_step3
  go_wp2_with fail
  go_loopg [1, 5] (zs.length + 1) (fun gh v1 v5 wx => ∃ (dn ys rk : List Int) (ls : List Nat) (ps : List Part) (Hk : Value) (Ab : Option Addr) (cb : Nat) (Ap : Option Addr) (cp : Nat), Hid (zs = dn ++ ys) ∧ ys.length < gh ∧ v1 = .slice Ab ys.length cb ∧ v5 = .slice Ap ps.length cp ∧
    wx.ownsRow w.heap.size 30 1 (.slice Ap ps.length cp) ps.length (ps.map Part.v) ∧ WI t s g base B c H Hk T rest dn ys rk ls ps Ab cb w wx)
  case atStart => exact ⟨[], zs, rest, [], [], H, A, cap, none, 0, Lib.hid rfl, Nat.lt_succ_self _, rfl, rfl, World.ownsRow_nil _ _ _ _, h0⟩
  case round =>
    clear h0
    obtain ⟨dn, ys, rk, ls, ps, Hk, Ab, cb, Ap, cp, HZ, hgh, rfl, rfl, hown, hI⟩ := hrel
    have hlz : dn.length + ys.length = zs.length := by rw [HZ.out, List.length_append]
    obtain ⟨hpl, hrl⟩ := hI.len OK.out
    have hcb := hI.cap
    have hws := hI.ch.size
    obtain ⟨gh, rfl⟩ : ∃ gh, gk = gh + 1 := ⟨gk - 1, by omega⟩
    go_wp2_with fail
    obtain ⟨wo, hwo⟩ : ∃ wo : World, wo = wr := ⟨_, rfl⟩
    rw [← hwo] at hown hI hws
    have HW := Lib.hid hwo
    have hst0 : Scn wr s g c (T ++ dn ++ ys.take 0) (rk.length + 0) := by rw [← hwo]; simpa using hI.stm.scn
    have hch0 : Ch (At2 s g) wo wr := by rw [hwo]; exact Ch.refl _ _
    have hno0 : nxtL c (rk ++ ys.take 0) = none := by simpa using hI.stm.no
    clear hwo
    go_loopg [1, 5, 10] ys.length (fun h v1 v5 v10 wy => ∃ j : Nat, j + h = ys.length ∧ v1 = .slice Ab ys.length cb ∧ v5 = .slice Ap ps.length cp ∧ v10 = .int .i64 j ∧ Scn wy s g c (T ++ dn ++ ys.take j) (rk.length + j) ∧ Hid (nxtL c (rk ++ ys.take j) = none) ∧ Ch (At2 s g) wo wy)
    case atStart => exact ⟨0, by omega, rfl, rfl, rfl, hst0, Lib.hid hno0, hch0⟩
    case round =>
      clear hst0 hch0 hno0
      obtain ⟨j, hj, rfl, rfl, rfl, hSc, HN, hch⟩ := hrel
      obtain ⟨hts, htg, hsg, hot, hos, hog⟩ := hI.stm.ne_ts
      have hBt := hI.stm.blk.ch hch (fun h => h.elim (fun h => hts h) (fun h => htg h))
      have c0 : wr.cell? ⟨t, 0, none⟩ = some (.pointer (some ⟨s, 0, none⟩)) := (hBt.cell 0).trans rfl
      have hs1 := hch.size
      cases gk with
      | succ gi =>
        have hlt : j < ys.length := by omega
        have hltI : (j : Int) < (ys.length : Int) := by omega
        have hrw := hI.row.chA hch (Nat.le_trans hB hws) (fun ad e h => hI.off ad e (at2_stb h))
        obtain ⟨ad, rfl, hbl, hc⟩ := hrw.at_ (k := j) (by simpa using hlt)
        rw [List.getElem_map] at hc
        have hbd := Hz.out ys[j] (by rw [HZ.out]; exact List.mem_append_right _ (List.getElem_mem hlt))
        have hsp := stm_stop OK.out (T := T ++ dn) (ys := ys) hI.stm.suf j hlt
        by_cases hst : stopT c (T ++ dn ++ ys.take j ++ [ys[j]]) (rk.length + j + 1) = true
        · have HC := Lib.hid (scanPush_yes hst hSc (by omega) hbd.1 hbd.2)
          rw [hst] at hsp
          have HSP := Lib.hid hsp.symm
          clear hst hsp hBt hSc hrw
          go_wp2_with fail
          refine HC.out.mono ?_
          rintro e w2 ⟨rfl, hS2, hch2⟩
          have kc2 : Ch (At2 s g) wo w2 := hch.trans hch2
          have hBt2 := hI.stm.blk.ch kc2 (fun h => h.elim (fun h => hts h) (fun h => htg h))
          have hO2 := own_ch hI.stm.own kc2 (fun k hk h => h.elim (fun h => hos (by rw [hk, h])) (fun h => hog (by rw [hk, h])))
          have hr2 := hI.row.chA kc2 (Nat.le_trans hB hws) (fun ad e h => hI.off ad e (at2_stb h))
          have hrt := row_take hr2 (j + 1)
          rw [← List.map_take] at hrt
          have hl1 : (ys.take (j + 1)).length = j + 1 := by rw [List.length_take]; omega
          have hs2 := kc2.size
          have HCO := Lib.hid (cutOff_any t s base Hk rk (some ad) cb B (ys.take (j + 1)) w2 hBt2 hO2 hrt (by omega) (by omega))
          rw [hl1] at HCO
          generalize hck : rk ++ ys.take (j + 1) = ck at HCO
          have HCK := Lib.hid hck.symm
          have hckl : ck.length ≤ 1048576 := by rw [← hck, List.length_append, hl1]; omega
          have k2 : (j : Int) + 1 ≤ (cb : Int) := by omega
          have k3 : (0 : Int) ≤ (j : Int) + 1 := by omega
          clear hck hl1 HC hch hch2 hBt2 hO2 hr2 hrt c0 hs1
          by_cases hcj : cb = j + 1
          · subst hcj
            have hde : ys.drop (j + 1) = [] := List.drop_eq_nil_of_le hcb
            have HDE := Lib.hid hde
            clear hde
            go_wp2_with fail
            refine HCO.out.mono ?_
            rintro e w3 ⟨A3, rfl, hT3, hA3, hB3, hch3⟩
            have hO3 := own_ch (own_ch hown kc2 (fun k hk h => hI.stm.ne_own hown (by decide) (by decide) (by decide) (by decide) k hk (at2_stb h))) hch3 (fun k hk h => hI.stm.ne_own hown (by decide) (by decide) (by decide) (by decide) k hk (cut_stb h))
            have hs3 := hch3.size
            clear HCO
            go_wp2_with (at_builtin; refine wpList_append_row rfl (.tmp 21) (.tmp 28) rfl w.heap.size elem_bytes (by rfl) (hO3.alloc _) _ (by rfl) (by rfl) (Blk.row (Blk.new w3 30 #[.slice A3 ck.length ck.length])) (by simp [Value.oneCell']) (by unfold maxLen; omega) (by omega) (by simp; omega) ?_; intro A4 c4 w4 hown4 hg4 _)
            go_roundg gh
            case measure => omega
            case rel =>
              refine ⟨dn ++ ys.take (j + 1), ys.drop (j + 1), [], ls ++ [ck.length], ps ++ [⟨A3, ck.length, ck⟩], .slice none 0 0, some ad, 0, A4, c4, Lib.hid (by rw [HZ.out, List.append_assoc, List.take_append_drop]), by rw [List.length_drop]; omega, by rw [HDE.out]; rfl, by rw [List.length_append]; rfl, ?_,
                hI.hit OK.out hlt hB hbase HSP.out HN.out kc2 hS2 HCK.out hT3 hA3 hB3 hch3 hown hg4 (fun wx hr => by rw [HDE.out]; exact .inl rfl) (fun ad' e => ⟨ad', e, rfl⟩) (by omega)⟩
              rw [List.length_append, List.map_append]
              exact hown4
          · go_wp2_with fail
            refine HCO.out.mono ?_
            rintro e w3 ⟨A3, rfl, hT3, hA3, hB3, hch3⟩
            have hO3 := own_ch (own_ch hown kc2 (fun k hk h => hI.stm.ne_own hown (by decide) (by decide) (by decide) (by decide) k hk (at2_stb h))) hch3 (fun k hk h => hI.stm.ne_own hown (by decide) (by decide) (by decide) (by decide) k hk (cut_stb h))
            have hs3 := hch3.size
            clear HCO
            go_wp2_with (at_builtin; refine wpList_append_row rfl (.tmp 21) (.tmp 28) rfl w.heap.size elem_bytes (by rfl) (hO3.alloc _) _ (by rfl) (by rfl) (Blk.row (Blk.new w3 30 #[.slice A3 ck.length ck.length])) (by simp [Value.oneCell']) (by unfold maxLen; omega) (by omega) (by simp; omega) ?_; intro A4 c4 w4 hown4 hg4 _)
            go_roundg gh
            case measure => omega
            case rel =>
              refine ⟨dn ++ ys.take (j + 1), ys.drop (j + 1), [], ls ++ [ck.length], ps ++ [⟨A3, ck.length, ck⟩], .slice none 0 0, some (ad.add (j + 1)), cb - (j + 1), A4, c4, Lib.hid (by rw [HZ.out, List.append_assoc, List.take_append_drop]), by rw [List.length_drop]; omega, by rw [List.length_drop]; rfl, by rw [List.length_append]; rfl, ?_,
                hI.hit OK.out hlt hB hbase HSP.out HN.out kc2 hS2 HCK.out hT3 hA3 hB3 hch3 hown hg4 (fun wx hr => row_drop hr (j + 1)) (fun ad' e => ⟨ad, rfl, by injection e with e; rw [← e, add_block]⟩) (by omega)⟩
              rw [List.length_append, List.map_append]
              exact hown4
        · have hst' : stopT c (T ++ dn ++ ys.take j ++ [ys[j]]) (rk.length + j + 1) = false := by simpa using hst
          have HC := Lib.hid (scanPush_no hst' hSc (by omega) hbd.1 hbd.2)
          have hn2 := nxtL_snoc (b := ys[j]) HN.out
          rw [← hsp, if_neg hst, List.append_assoc, ← List.take_succ_eq_append_getElem hlt] at hn2
          have HN2 := Lib.hid hn2
          have HTk := Lib.hid (List.take_succ_eq_append_getElem hlt)
          clear hst hst' hsp hn2 hSc hBt hrw
          go_wp2_with fail
          refine HC.out.mono ?_
          rintro e w2 ⟨rfl, hS2, hch2⟩
          go_wp2_with fail
          go_roundg gi
          case measure => omega
          case rel => exact ⟨j + 1, by omega, rfl, rfl, by go_num, by rw [HTk.out, ← List.append_assoc]; exact hS2, HN2, hch.trans hch2⟩
      | zero =>
        obtain rfl : j = ys.length := by omega
        rw [List.take_length] at hSc HN
        have hrw := hI.row.chA hch (Nat.le_trans hB hws) (fun ad e h => hI.off ad e (at2_stb h))
        have hO := own_ch hI.stm.own hch (fun k hk h => h.elim (fun h => hos (by rw [hk, h])) (fun h => hog (by rw [hk, h])))
        obtain ⟨AH, cH, rfl, hcH⟩ := own_form hI.stm.own
        have c1 : wr.cell? ⟨t, 1, none⟩ = some (.slice AH rk.length cH) := (hBt.cell 1).trans rfl
        go_wp2_with (at_builtin; refine wpList_append_row rfl (.tmp 39) (.tmp 40) rfl base elem_u8 (by rfl) hO B (by rfl) (by simp) hrw (ones_u8 _) (by unfold maxLen; omega) (by omega) (by omega) ?_; intro A5 c5 w3 hown3 hg3 hwh; have hB5 := hBt.ch (Ch.of_own hg3) hot; have f5 := hB5.frozen 1; have c5' : w3.cell? ⟨t, 1, none⟩ = some (.slice AH rk.length cH) := (hB5.cell 1).trans rfl)
        try rw [Exit.noGoto_ret]
        go_ret
        exact hI.exit OK.out hbase HN.out hch hSc hg3 hown3 hwh hown HZ.out rfl

end Go.Proofs.Ytnbbbmmpkjiejaa
