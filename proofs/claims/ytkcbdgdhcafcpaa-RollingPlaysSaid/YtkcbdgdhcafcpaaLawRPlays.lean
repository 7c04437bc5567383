/-
  stockyardlaw23.RollingPlays returns true.
-/
import Derived.Test.YtkcbdgdhcafcpaaRolled
import Derived.Test.YtkcbdgdhcafcpaaRefRoll
namespace Go.Proofs.Ytkcbdgdhcafcpaa
set_option linter.unusedVariables false
set_option linter.unusedSimpArgs false
set_option linter.unnecessarySimpa false
open Go.RowKit
attribute [local go_sem ↓] Go.wp_at_zero Go.wp_at_succ

set_option maxHeartbeats 1000000 in
theorem same23_any (g n : Nat) (ws : List Int) (A : Option Addr) (c : Nat) (w : World) (hR : Rol w g n ws) (hrow : Row w w.heap.size A (ws.map (.int .u8))) :
    Calls Try.prog 28 #[.pointer (some ⟨g, 0, none⟩), .agg #[.int .i64 n, .slice A ws.length c]] w fun e w' => e = .returned (.bool true) ∧ Below w.heap.size w w' := by
  have hle := hR.le
  have HE := Lib.hid hR.elem
  have g0 := grew_alloc w (.cells #[.int .i64 n, .slice A ws.length c] 39)
  have hR1 := hR.of g0
  have hrow1 := (hrow.below g0 (Nat.le_refl _)).more g0.size
  have hB := Blk.new w 39 #[.int .i64 n, .slice A ws.length c]
  have b1 := hB.cell 1
  simp only [List.getElem?_toArray, List.getElem?_cons_zero, List.getElem?_cons_succ] at b1
  go_enter Try.func28, Try.ntmps28
  go_wp2_with fail
  generalize w.alloc (.cells #[.int .i64 n, .slice A ws.length c] 39) = w1 at *
  clear hB hR hrow
  refine wp_region_g 14 (by kernel_rfl) ?_
  refine AllC.head 0 14 (fuel := 1) (by first | exact fun h k => Grew.trans h k | exact fun h k => cls_grew h k) (grew_drew _) (by rfl) (by kernel_rfl) ?_
  simp only [List.take_succ_cons, List.take_zero, List.drop_succ_cons, List.drop_zero]
  repeat (first
    | (refine HeadC.val (by rfl) ?_
       apply Exists.intro
       refine ⟨fun w' hw' => ?_, ?_⟩
       · (have hf_0 := cell_up hw' b1; (go_simp) <;> (try go_ints) <;> with_reducible rfl)
       try simp only [Act.put, List.setIfInBounds_toArray, List.set_cons_zero, List.set_cons_succ])
    | (refine HeadC.call (by rfl) ?_
       apply Exists.intro; apply Exists.intro
       refine ⟨fun w' hw' => ?_, ?_⟩
       · (have hf_0 := cell_up hw' b1; (go_simp) <;> first | (refine ⟨?_, ?_⟩ <;> with_reducible rfl) | with_reducible rfl)
       apply Exists.intro
       refine ⟨fun w' hw' => ?_, ?_⟩
       · (first | exact grew_same (rLen_any g n _ _ (hR1.of hw')) | exact grew_same (rSum_any g n _ _ (hR1.of hw')) | exact grew_draws (refSum_any A c _ ws _ ((hrow1.below hw' (Nat.le_refl _)).more hw'.size) HE.out (by omega)))
       try simp only [Act.put, List.setIfInBounds_toArray, List.set_cons_zero, List.set_cons_succ])
    | (refine HeadC.shut (by rfl) ?_
       try simp only [Act.put, List.setIfInBounds_toArray, List.set_cons_zero, List.set_cons_succ]))
  refine HeadC.nil ?_
  refine AllC.tail 14 (by rfl) (by kernel_rfl) ?_
  intro wt hwt
  simp only [List.drop_succ_cons, List.drop_zero]
  go_wp2_with fail
  go_ret
  exact ⟨by simp, Grew.trans g0 ((grew_drew _).trans hwt)⟩

/-- the row's place: not block g; it is there -/
def Far (w : World) (A : Option Addr) (g : Nat) : Prop := ∀ ad, A = some ad → ad.block ≠ g ∧ ad.block < w.heap.size
theorem Far.up {w w' : World} {A : Option Addr} {g : Nat} (k : Far w A g) (hs : w.heap.size ≤ w'.heap.size) : Far w' A g := fun ad e => ⟨(k ad e).1, Nat.lt_of_lt_of_le (k ad e).2 hs⟩
/-- what the roller g of the program and the reference's roller in block gb hold: the window ws -/
structure Two (w : World) (g gb n : Nat) (ws : List Int) (A : Option Addr) (c : Nat) : Prop where
  rol : Rol w g n ws
  blk : Blk w gb 39 #[.int .i64 n, .slice A ws.length c]
  row : Row w w.heap.size A (ws.map (.int .u8))
  fg : Far w A g
  fb : Far w A gb
theorem Two.ch {w w' : World} {g gb n : Nat} {ws : List Int} {A : Option Addr} {c x : Nat} (h : Two w g gb n ws A c) (k : Ch (At x) w w') (h1 : g ≠ x) (h2 : gb ≠ x) (h3 : Far w A x) : Two w' g gb n ws A c :=
  ⟨h.rol.ch k h1, h.blk.ch k h2, (h.row.chA k (Nat.le_refl _) (fun ad e => (h3 ad e).1)).more k.size, h.fg.up k.size, h.fb.up k.size⟩
theorem Two.of {w w' : World} {g gb n : Nat} {ws : List Int} {A : Option Addr} {c : Nat} (h : Two w g gb n ws A c) (k : Grew w w') : Two w' g gb n ws A c :=
  ⟨h.rol.of k, h.blk.of k, (h.row.below k (Nat.le_refl _)).more k.size, h.fg.up k.size, h.fb.up k.size⟩
theorem Two.ne {w : World} {g gb n : Nat} {ws : List Int} {A : Option Addr} {c : Nat} (h : Two w g gb n ws A c) : g ≠ gb := by
  obtain ⟨_, _, hB', _⟩ := h.rol.ex
  exact hB'.ne_ h.blk (by decide)
theorem Two.cells {w : World} {g gb n : Nat} {ws : List Int} {A : Option Addr} {c : Nat} (h : Two w g gb n ws A c) :
    w.cell? ⟨gb, 0, none⟩ = some (.int .i64 n) ∧ w.cell? ⟨gb, 1, none⟩ = some (.slice A ws.length c) ∧ w.frozen? ⟨gb, 0, none⟩ = false ∧ w.frozen? ⟨gb, 1, none⟩ = false :=
  ⟨(h.blk.cell 0).trans rfl, (h.blk.cell 1).trans rfl, h.blk.frozen 0, h.blk.frozen 1⟩
theorem Two.same {w : World} {g gb n : Nat} {ws : List Int} {A : Option Addr} {c : Nat} (h : Two w g gb n ws A c) :
    Calls Try.prog 28 #[.pointer (some ⟨g, 0, none⟩), .agg #[.int .i64 n, .slice A ws.length c]] w fun e w' => e = .returned (.bool true) ∧ Two w' g gb n ws A c ∧ Below w.heap.size w w' :=
  (same23_any g n ws A c w h.rol h.row).mono fun _ _ ⟨he, hb⟩ => ⟨he, h.of hb, hb⟩
/-- the reference's push, stored back into its block -/
theorem Two.push {w w5 : World} {g gb n : Nat} {ws l2 : List Int} {A A5 : Option Addr} {c c5 : Nat} (h : Two w g gb n ws A c) (hb5 : Below w.heap.size w w5) (hrow : Row w5 w5.heap.size A5 (l2.map (.int .u8))) (hfr : ∀ ad, A5 = some ad → w.heap.size ≤ ad.block)
    (hl : 0 < l2.length) : Blk ((w5.setCell ⟨gb, 0, none⟩ (.int .i64 n)).setCell ⟨gb, 1, none⟩ (.slice A5 l2.length c5)) gb 39 #[.int .i64 n, .slice A5 l2.length c5] ∧
      Row ((w5.setCell ⟨gb, 0, none⟩ (.int .i64 n)).setCell ⟨gb, 1, none⟩ (.slice A5 l2.length c5)) ((w5.setCell ⟨gb, 0, none⟩ (.int .i64 n)).setCell ⟨gb, 1, none⟩ (.slice A5 l2.length c5)).heap.size A5 (l2.map (.int .u8)) ∧
      Far ((w5.setCell ⟨gb, 0, none⟩ (.int .i64 n)).setCell ⟨gb, 1, none⟩ (.slice A5 l2.length c5)) A5 g ∧ Far ((w5.setCell ⟨gb, 0, none⟩ (.int .i64 n)).setCell ⟨gb, 1, none⟩ (.slice A5 l2.length c5)) A5 gb ∧
      Rol ((w5.setCell ⟨gb, 0, none⟩ (.int .i64 n)).setCell ⟨gb, 1, none⟩ (.slice A5 l2.length c5)) g n ws ∧ Ch (At gb) w ((w5.setCell ⟨gb, 0, none⟩ (.int .i64 n)).setCell ⟨gb, 1, none⟩ (.slice A5 l2.length c5)) := by
  have hB5 := h.blk.of hb5
  have hch := ((Ch.refl (At gb) w5).set_at 0 (.int .i64 n)).set_at 1 (.slice A5 l2.length c5)
  have hlt : ∀ ad, A5 = some ad → ad.block < w5.heap.size := fun ad e => by
    obtain ⟨ad', h', hb', _⟩ := hrow.at_ (k := 0) (by simpa using hl)
    rw [e] at h'
    injection h' with h'
    rw [h']; exact hb'
  have hg := h.rol.lt
  have hgb := h.blk.lt
  refine ⟨(hB5.set_ 0 _).set_ 1 _, (hrow.chA hch (Nat.le_refl _) (fun ad e => ?_)).more hch.size, fun ad e => ⟨?_, Nat.lt_of_lt_of_le (hlt ad e) hch.size⟩, fun ad e => ⟨?_, Nat.lt_of_lt_of_le (hlt ad e) hch.size⟩, (h.rol.of hb5).ch hch h.ne, (Ch.of_below hb5).trans hch⟩
  · have := hfr ad e; show ¬ ad.block = gb; omega
  · have := hfr ad e; omega
  · have := hfr ad e; omega

theorem pushW_mem {ws : List Int} {b : Int} (n : Nat) (h : ∀ z ∈ ws, 0 ≤ z ∧ z ≤ 255) (h0 : 0 ≤ b) (h1 : b ≤ 255) : ∀ z ∈ pushW n ws b, 0 ≤ z ∧ z ≤ 255 := by
  have k : ∀ z ∈ ws ++ [b], 0 ≤ z ∧ z ≤ 255 := fun z hz => (List.mem_append.1 hz).elim (h z) (fun e => by rw [List.mem_singleton] at e; subst e; exact ⟨h0, h1⟩)
  intro z hz
  unfold pushW at hz
  split at hz
  · exact k z hz
  · exact k z (List.mem_of_mem_drop hz)
set_option maxHeartbeats 2000000 in
theorem lawRPlays_any (v : Int) (A : Option Addr) (cap : Nat) (ls : List Int) (w : World) (v0 : -9223372036854775808 ≤ v) (v1 : v ≤ 9223372036854775807)
    (hr : Row w w.heap.size A (ls.map (.int .i64))) (hz : ∀ z ∈ ls, -9223372036854775808 ≤ z ∧ z ≤ 9223372036854775807) (hm : ls.length ≤ 9223372036854775807) :
    Calls Try.prog 7 #[.int .i64 v, .slice A ls.length cap] w fun e w' => e = .returned (.bool true) ∧ Below w.heap.size w w' := by
  have Hz := Lib.hid hz
  clear hz
  go_enter Try.func7, Try.ntmps7
  go_wp2_with fail
  refine (size23_any v v0 v1 _).mono ?_
  rintro e w0 ⟨n, rfl, n0, n1, hn, rfl⟩
  clear hn
  go_wp2_with fail
  have HPu := Lib.hid (pushed_any n none 0 0 [] w n0 n1 Row.nil (Nat.zero_le _) (by simp) (by simp))
  simp only [List.length_nil, lastN_nil] at HPu
  refine HPu.out.mono ?_
  rintro e w1 ⟨g, rfl, hR, hg, hb1⟩
  have g0 := grew_alloc w1 (.cells #[.int .i64 n, .slice none 0 0] 39)
  have hT : Two (w1.alloc (.cells #[.int .i64 n, .slice none 0 0] 39)) g w1.heap.size n [] none 0 :=
    ⟨hR.of g0, Blk.new w1 _ _, Row.nil, fun ad h => (by cases h), fun ad h => (by cases h)⟩
  have hgb := hb1.size
  have hb2 : Below w.heap.size w (w1.alloc (.cells #[.int .i64 n, .slice none 0 0] 39)) := hb1.alloc hgb _
  clear g0 hR hb1 HPu
  go_wp2_with fail
  generalize w1.alloc (.cells #[.int .i64 n, .slice none 0 0] 39) = w2 at *
  generalize w1.heap.size = gb at *
  go_loopw [5, 7] (fun r i wr => (∃ k : Nat, k ≤ ls.length ∧ i = .int .i64 k ∧ ∃ g ws A c, r = .pointer (some ⟨g, 0, none⟩) ∧ w.heap.size ≤ g ∧ Two wr g gb n ws A c) ∧ Below w.heap.size w wr) (fun _ i _ => ls.length - (intOf i).toNat)
  case atStart => exact ⟨⟨0, Nat.zero_le _, rfl, g, [], none, 0, rfl, hg, hT⟩, hb2⟩
  case round =>
    clear hT hb2 hg
    obtain ⟨⟨k, hk, rfl, gr, ws, A1, c, rfl, hg, hT⟩, hb⟩ := hrel
    by_cases hlt : k < ls.length
    · obtain ⟨ad, rfl, hbl, hc⟩ := (hr.below hb (Nat.le_refl _)).at_ (k := k) (by simpa using hlt)
      rw [List.getElem_map] at hc
      have hbs := hb.size
      have hzb := Hz.out _ (List.getElem_mem hlt)
      have f0 := foldI_lo ls[k] 300
      have f1 := foldI_hi ls[k] 300 (by omega)
      have HF := Lib.hid (fun W => fold_any ls[k] 300 hzb.1 hzb.2 (by omega) W)
      generalize foldI ls[k] 300 = q at *
      have hle := hT.rol.le
      have hne := hT.ne
      obtain ⟨b0, b1, z0, z1⟩ := hT.cells
      by_cases c1 : q < 256
      · have hu : IntKind.u8.wrap q = q := Go.IntWalk.u8_in _ (by omega)
        have HC := Lib.hid (fun W (h : Row W W.heap.size A1 (ws.map (.int .u8))) => refPush_any n A1 c W.heap.size ws q W n0 n1 h (Nat.le_refl _) hle.1 (by omega) (by omega))
        have HPu := Lib.hid (fun W (h : Rol W gr n ws) => push_any gr n ws q W h (by omega) (by omega))
        have hl2 : 0 < (pushW n ws q).length := by
          rcases Nat.lt_or_ge ws.length n with h | h
          · rw [pushW_len_lt h]; omega
          · rw [pushW_len_ge h]; omega
        have hl3 := pushW_le (b := q) hle.1 n0
        unfold rrV at HC
        have HE := Lib.hid (pushW_mem (b := q) n hT.rol.elem (by omega) (by omega))
        generalize pushW n ws q = l2 at *
        go_wp2_with fail
        refine (HF.out _).mono ?_
        rintro e wn ⟨rfl, rfl⟩
        go_wp2_with fail
        refine (HC.out _ hT.row).mono ?_
        rintro e w5 ⟨A5, c5, rfl, hrow, hfr, hb5⟩
        have HT6 := Lib.hid (hT.push (c5 := c5) hb5 hrow hfr hl2)
        have y0 : w5.cell? _ = _ := cell_up hb5 b0
        have y1 : w5.cell? _ = _ := cell_up hb5 b1
        have y2 : w5.frozen? _ = _ := (hb5.frozen (p := ⟨gb, 0, none⟩) hT.blk.lt).trans z0
        have y3 : w5.frozen? _ = _ := (hb5.frozen (p := ⟨gb, 1, none⟩) hT.blk.lt).trans z1
        clear hrow hfr hb5 b0 b1 z0 z1 hT HC
        go_wp2_with fail
        generalize (w5.setCell ⟨gb, 0, none⟩ (.int .i64 n)).setCell ⟨gb, 1, none⟩ (.slice A5 l2.length c5) = w6 at *
        clear y0 y1 y2 y3
        obtain ⟨hB6, hrow6, hfg, hfb, hR6, hch6⟩ := HT6.out
        clear HT6
        have hb6 : Below w.heap.size w w6 := hb.trans (hch6.below hbs (fun i hi => by rw [hi]; exact hgb))
        have b1 : w6.cell? ⟨gb, 1, none⟩ = some (.slice A5 l2.length c5) := (hB6.cell 1).trans rfl
        refine wp_region_cls (Ch (At gr) w6) 8 (by kernel_rfl) ?_
        have hc0 := (Ch.refl (At gr) w6).drew
        refine AllC.head 0 3 (fuel := 5) (by first | exact fun h k => Grew.trans h k | exact fun h k => cls_grew h k) (hc0) (by rfl) (by kernel_rfl) ?_
        simp only [List.take_succ_cons, List.take_zero, List.drop_succ_cons, List.drop_zero]
        repeat (first
          | (refine HeadC.val (by rfl) ?_
             apply Exists.intro
             refine ⟨fun w' hw' => ?_, ?_⟩
             · ((go_simp) <;> (try go_ints) <;> with_reducible rfl)
             try simp only [Act.put, List.setIfInBounds_toArray, List.set_cons_zero, List.set_cons_succ])
          | (refine HeadC.shut (by rfl) ?_
             try simp only [Act.put, List.setIfInBounds_toArray, List.set_cons_zero, List.set_cons_succ]))
        refine HeadC.nil ?_
        refine AllC.head 4 2 (fuel := 3) (by first | exact fun h k => Grew.trans h k | exact fun h k => cls_grew h k) (hc0) (by rfl) (by kernel_rfl) ?_
        simp only [List.take_succ_cons, List.take_zero, List.drop_succ_cons, List.drop_zero]
        repeat (first
          | (refine HeadC.val (by rfl) ?_
             apply Exists.intro
             refine ⟨fun w' hw' => ?_, ?_⟩
             · (have hf_0 := hw'.cell b1 (Ne.symm hne); (go_simp) <;> (try go_ints) <;> with_reducible rfl)
             try simp only [Act.put, List.setIfInBounds_toArray, List.set_cons_zero, List.set_cons_succ])
          | (refine HeadC.shut (by rfl) ?_
             try simp only [Act.put, List.setIfInBounds_toArray, List.set_cons_zero, List.set_cons_succ]))
        refine HeadC.nil ?_
        refine AllC.one 3 (by kernel_rfl) rfl ?_
        intro wg hg1 K hK
        go_simp
        have hg' : Grew w6 wg := (grew_drew _).trans hg1
        refine (HPu.out wg (hR6.of hg')).mono ?_
        rintro e w7 ⟨rfl, hR7, hch⟩
        have hc5 : Ch (At gr) w6 w7 := (Ch.of_below hg').trans hch
        refine hK.out _ _ hc5 ?_
        clear hK K HPu hch hg' hR6
        try simp only [Act.put, List.setIfInBounds_toArray, List.set_cons_zero, List.set_cons_succ]
        refine AllC.head 6 2 (fuel := 0) (by first | exact fun h k => Grew.trans h k | exact fun h k => cls_grew h k) (hc5) (by rfl) (by kernel_rfl) ?_
        simp only [List.take_succ_cons, List.take_zero, List.drop_succ_cons, List.drop_zero]
        repeat (first
          | (refine HeadC.val (by rfl) ?_
             apply Exists.intro
             refine ⟨fun w' hw' => ?_, ?_⟩
             · ((go_simp) <;> (try go_ints) <;> with_reducible rfl)
             try simp only [Act.put, List.setIfInBounds_toArray, List.set_cons_zero, List.set_cons_succ])
          | (refine HeadC.call (by rfl) ?_
             apply Exists.intro; apply Exists.intro
             refine ⟨fun w' hw' => ?_, ?_⟩
             · ((go_simp) <;> first | (refine ⟨?_, ?_⟩ <;> with_reducible rfl) | with_reducible rfl)
             apply Exists.intro
             refine ⟨fun w' hw' => ?_, ?_⟩
             · (first | exact grew_draws (refSum_any A5 c5 _ l2 _ ((hrow6.chA hw' (Nat.le_refl _) (fun ad e => (hfg ad e).1)).more hw'.size) HE.out (by omega)))
             try simp only [Act.put, List.setIfInBounds_toArray, List.set_cons_zero, List.set_cons_succ])
          | (refine HeadC.shut (by rfl) ?_
             try simp only [Act.put, List.setIfInBounds_toArray, List.set_cons_zero, List.set_cons_succ]))
        refine HeadC.nil ?_
        refine AllC.done (by kernel_rfl) (fun w8 h8 => ?_)
        have hch8 := hc5.next h8
        have hT8 : Two w8 gr gb n l2 A5 c5 := ⟨hR7.of h8, hB6.ch hch8 (Ne.symm hne), (hrow6.chA hch8 (Nat.le_refl _) (fun ad e => (hfg ad e).1)).more hch8.size, hfg.up hch8.size, hfb.up hch8.size⟩
        have hb8 : Below w.heap.size w w8 := hb6.trans (hch8.below hb6.size (fun i hi => by rw [hi]; exact hg))
        clear hch8 hR7 hB6 hrow6 hfg hfb hc5 h8 hc0 hb6 b1 hch6
        obtain ⟨b0, b1, z0, z1⟩ := hT8.cells
        go_wp2_with fail
        refine (hT8.same).mono ?_
        rintro e wz ⟨rfl, hTz, hbz⟩
        have hbz' : Below w.heap.size w wz := Below.trans (B := w.heap.size) hb8 (hbz.mono hb8.size)
        clear hbz
        go_wp2_with fail
        go_roundw
        case rel => exact ⟨⟨k + 1, by omega, by go_num, _, _, _, _, rfl, hg, hTz⟩, hbz'⟩
        case measure => simp [intOf]; omega
      · by_cases c2 : q < 260
        · go_wp2_with fail
          refine (HF.out _).mono ?_
          rintro e wn ⟨rfl, rfl⟩
          go_wp2_with fail
          refine (rReset_any gr n ws _ hT.rol).mono ?_
          rintro e w5 ⟨rfl, hR5, hch⟩
          have y1 : w5.cell? _ = _ := hch.cell b1 (Ne.symm hne)
          have hy0 : w5.cell? _ = _ := hch.cell b0 (Ne.symm hne)
          have y3 : w5.frozen? _ = _ := (hch.frozenEq (p := ⟨gb, 1, none⟩) hT.blk.lt (Ne.symm hne)).trans z1
          have hB5 := (hT.blk.ch hch (Ne.symm hne)).set_ 1 (.slice none 0 0)
          have hch2 := (Ch.refl (At gb) w5).set_at 1 (.slice none 0 0)
          have hT6 : Two (w5.setCell ⟨gb, 1, none⟩ (.slice none 0 0)) gr gb n [] none 0 := ⟨hR5.ch hch2 hne, hB5, Row.nil, fun ad h => (by cases h), fun ad h => (by cases h)⟩
          have hb6 : Below w.heap.size w (w5.setCell ⟨gb, 1, none⟩ (.slice none 0 0)) := Below.trans (B := w.heap.size) hb (Below.trans (B := w.heap.size) (hch.below hbs (fun i hi => by rw [hi]; exact hg)) ((Below.refl _ _).setCell hgb _))
          have HT6 := Lib.hid hT6
          clear hT6 hT hB5 hch hch2 hR5 hb b0 b1 z0 z1
          have y0 : w5.cell? _ = _ := hy0
          go_wp2_with fail
          refine (HT6.out.same).mono ?_
          rintro e wz ⟨rfl, hTz, hbz⟩
          have hbz' : Below w.heap.size w wz := Below.trans (B := w.heap.size) hb6 (hbz.mono hb6.size)
          clear hbz
          go_wp2_with fail
          go_roundw
          case rel => exact ⟨⟨k + 1, by omega, by go_num, _, _, _, _, rfl, hg, hTz⟩, hbz'⟩
          case measure => simp [intOf]; omega
        · have hu : IntKind.u8.wrap q = q - 256 := by rw [IntKind.wrap_u8]; omega
          have HPu := Lib.hid (fun W (h : Rol W gr n ws) => push_any gr n ws (q - 256) W h (by omega) (by omega))
          go_wp2_with fail
          refine (HF.out _).mono ?_
          rintro e wn ⟨rfl, rfl⟩
          go_wp2_with fail
          refine (rCopy_any gr n ws _ hT.rol).mono ?_
          rintro e w5 ⟨g2, rfl, hR2, hfr, hb5⟩
          have hgl := hT.rol.lt
          have hgbl := hT.blk.lt
          have hT5 := hT.of hb5
          have hTc : Two w5 g2 gb n ws A1 c := ⟨hR2, hT5.blk, hT5.row, fun ad e => ⟨by have := (hT.fg ad e).2; omega, (hT5.fg ad e).2⟩, hT5.fb⟩
          have hb5' : Below w.heap.size w w5 := Below.trans (B := w.heap.size) hb (hb5.mono hbs)
          obtain ⟨y0, y1, _, _⟩ := hTc.cells
          have hne2 : g2 ≠ gr := by omega
          have hg2 : w.heap.size ≤ g2 := by omega
          clear hT hb5 hR2 hb b0 b1 z0 z1 hfr
          go_wp2_with fail
          refine (hTc.same).mono ?_
          rintro e w6 ⟨rfl, hTc6, hb6⟩
          have hT6 := hT5.of hb6
          have hb6' : Below w.heap.size w w6 := Below.trans (B := w.heap.size) hb5' (hb6.mono hb5'.size)
          clear hT5 hTc y0 y1 hb6 hb5'
          go_wp2_with fail
          refine (HPu.out w6 hT6.rol).mono ?_
          rintro e w7 ⟨rfl, hR7, hch⟩
          have hTc7 := hTc6.ch hch hne2 (Ne.symm hne) hT6.fg
          have hb7' : Below w.heap.size w w7 := Below.trans (B := w.heap.size) hb6' (hch.below hb6'.size (fun i hi => by rw [hi]; exact hg))
          clear hTc6 hT6 hch hR7 hb6'
          obtain ⟨y0, y1, _, _⟩ := hTc7.cells
          go_wp2_with fail
          refine (hTc7.same).mono ?_
          rintro e w8 ⟨rfl, hTc8, hb8⟩
          have hb8' : Below w.heap.size w w8 := Below.trans (B := w.heap.size) hb7' (hb8.mono hb7'.size)
          clear hTc7 y0 y1 hb8 hb7'
          obtain ⟨y0, y1, _, _⟩ := hTc8.cells
          go_wp2_with fail
          refine (hTc8.same).mono ?_
          rintro e wz ⟨rfl, hTz, hbz⟩
          have hbz' : Below w.heap.size w wz := Below.trans (B := w.heap.size) hb8' (hbz.mono hb8'.size)
          clear hbz y0 y1
          go_wp2_with fail
          go_roundw
          case rel => exact ⟨⟨k + 1, by omega, by go_num, _, _, _, _, rfl, hg2, hTz⟩, hbz'⟩
          case measure => simp [intOf]; omega
    · go_wp2_with fail
      refine (known23_any _).mono ?_
      rintro e w5 ⟨rfl, hb5⟩
      go_wp2_with fail
      go_ret
      exact ⟨rfl, hb.trans (hb5.mono hb.size)⟩

end Go.Proofs.Ytkcbdgdhcafcpaa
