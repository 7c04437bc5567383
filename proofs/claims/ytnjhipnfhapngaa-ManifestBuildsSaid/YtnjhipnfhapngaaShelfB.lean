/-
  manifest's shelf.bytes: the bytes of a chunk, found and verified.
-/
import Derived.Test.YtnjhipnfhapngaaShelf
namespace Go.Proofs.Ytnjhipnfhapngaa
set_option linter.unusedVariables false
set_option linter.unusedSimpArgs false
set_option linter.unnecessarySimpa false
open Go.RowKit
attribute [local go_sem ↓] Go.wp_at_zero Go.wp_at_succ

theorem bytes_end {l : List ChZ} {b1 b2 m2 : Nat} {x : IdZ} {w w' : World} {v : Value} {e : Int} (hv : v = (fndP l x).v) (he : e = fndE l x) {g : IdZ → Option Value} (hm : MapIs w' b2 (m2 + 1) g) (hg : SoundOk l g) (hc : Ch (At b2) w w') :
    BytesRes l b1 b2 m2 x w (.returned (.tuple #[v, .int .i64 e])) w' := by subst hv; subst he; exact ⟨rfl, ⟨g, hm, hg⟩, hc⟩

set_option maxRecDepth 100000 in
set_option maxHeartbeats 2000000 in
theorem shelfBytes_any (b1 b2 m1 m2 B : Nat) (l : List ChZ) (x : IdZ) (g : IdZ → Option Value) (w : World) (h1 : MapIs w b1 m1 (fstV l)) (h2 : MapIs w b2 m2 g) (hg : SoundOk l g) (hm2 : m2 < maxLen) (hp : LieC w B l) (hB : B ≤ w.heap.size) (hok : OkC l) (wx : WfI x) :
    Calls Try.prog 57 #[.agg #[.map (some b1), .map (some b2)], .agg #[.int .u64 x.1, .int .i64 x.2]] w (BytesRes l b1 b2 m2 x w) := by
  have gA := grew_alloc w (.cells #[.map (some b1), .map (some b2)] 94)
  have hS := Blk.new w 94 #[.map (some b1), .map (some b2)]
  have z0 : (w.alloc (.cells #[.map (some b1), .map (some b2)] 94)).heap.size = w.heap.size + 1 := by simp
  have gB := grew_alloc (w.alloc (.cells #[.map (some b1), .map (some b2)] 94)) (.cells #[.int .u64 x.1, .int .i64 x.2] 51)
  have hI := Blk.new (w.alloc (.cells #[.map (some b1), .map (some b2)] 94)) 51 #[.int .u64 x.1, .int .i64 x.2]
  rw [z0] at hI
  replace hS := hS.of gB
  have gAB := gA.trans gB
  have k1 := h1.of gAB
  have k2 := h2.of gAB
  have hp2 := hp.below gAB hB
  have hB2 := Nat.le_trans hB gAB.size
  have hlk := k1.look wx Try.underlying91 (z := .slice none 0 0) (by kernel_rfl)
  have s0 := (hS.cell 0).trans (show _ = some (.map (some b1)) from rfl)
  have s1 := (hS.cell 1).trans (show _ = some (.map (some b2)) from rfl)
  have i0 := (hI.cell 0).trans (show _ = some (.int .u64 x.1) from rfl)
  have i1 := (hI.cell 1).trans (show _ = some (.int .i64 x.2) from rfl)
  have hch0 : Ch (At b2) w ((w.alloc (.cells #[.map (some b1), .map (some b2)] 94)).alloc (.cells #[.int .u64 x.1, .int .i64 x.2] 51)) := Ch.of_below gAB
  clear gA gB gAB z0 h1 h2 hp
  have Hg := Lib.hid hg
  have Hok := Lib.hid hok
  clear hg hok
  cases hf : fstC l x with
  | none =>
    have HF := Lib.hid (fnd_none hf)
    have hv : fstV l x = none := by unfold fstV; rw [hf]; rfl
    rw [hv] at hlk
    clear hv hf
    go_enter Try.func57, Try.ntmps57
    go_wp2_with fail
    go_ret2
    exact bytes_end (by rw [HF.out.2]; rfl) HF.out.1.symm (k2.mono (Nat.le_succ _)) Hg.out hch0
  | some c =>
    have hv : fstV l x = some c.p.v := by unfold fstV; rw [hf]; rfl
    rw [hv] at hlk
    have hcm := (fstC_mem hf).1
    obtain ⟨_, hcb, _, hcl⟩ := Hok.out c hcm
    have hrow := hp2 c hcm
    have HFst := Lib.hid hf
    clear hv hf
    obtain ⟨xs, xn⟩ := x
    cases hgx : g (xs, xn) with
    | some u =>
      obtain ⟨hu, c', hc', hi'⟩ := Hg.out _ u hgx
      subst hu
      have hcc : c' = c := by rw [HFst.out] at hc'; exact (Option.some.inj hc').symm
      subst hcc
      have HF := Lib.hid (fnd_ok HFst.out hi')
      have HI := Lib.hid hi'
      have HX := Lib.hid hgx
      clear hgx hc' hi'
      go_enter Try.func57, Try.ntmps57
      unfold Part.v at hlk
      go_wp2_with fail
      generalize (w.alloc (.cells #[.map (some b1), .map (some b2)] 94)).alloc (.cells #[.int .u64 xs, .int .i64 xn] 51) = w2 at *
      generalize w.heap.size = gc at *
      refine wp_region_g 9 (by kernel_rfl) ?_
      have HL := Lib.hid (fun W (h : Grew w2 W) => by have := (k2.of h).get wx Try.underlying92 (z := .bool false) (by kernel_rfl); rw [HX.out] at this; exact this)
      refine AllC.head 0 9 (fuel := 1) (by first | exact fun h k => Grew.trans h k | exact fun h k => cls_grew h k) (grew_drew _) (by rfl) (by kernel_rfl) ?_
      simp only [List.take_succ_cons, List.take_zero, List.drop_succ_cons, List.drop_zero]
      repeat (first
        | (refine HeadC.val (by rfl) ?_
           apply Exists.intro
           refine ⟨fun w' hw' => ?_, ?_⟩
           · (have hf_0 := cell_up hw' s1; have hf_1 := cell_up hw' i0; have hf_2 := cell_up hw' i1; have hf_3 := HL.out _ hw'; (go_simp) <;> (try go_ints) <;> with_reducible rfl)
           try simp only [Act.put, List.setIfInBounds_toArray, List.set_cons_zero, List.set_cons_succ])
        | (refine HeadC.shut (by rfl) ?_
           try simp only [Act.put, List.setIfInBounds_toArray, List.set_cons_zero, List.set_cons_succ]))
      refine HeadC.nil ?_
      refine AllC.tail 9 (by rfl) (by kernel_rfl) ?_
      intro wt hwt
      simp only [List.drop_succ_cons, List.drop_zero]
      have hg9 := (grew_drew w2).trans hwt
      have s1' := cell_up hg9 s1
      have i0' := cell_up hg9 i0
      have i1' := cell_up hg9 i1
      have k2' := k2.of hg9
      have hch9 := hch0.next hg9
      clear hwt s0 s1 i0 i1 hlk
      go_wp2_with (at_mapUpdate; refine wpList_store_id rfl (.tmp 28) (.tmp 29) (.const (.bool true)) rfl Try.underlying92 rfl k2' hm2 (xs, xn) rfl wx rfl ?_; intro w6 hM6 hch6)
      go_ret2
      exact bytes_end (by rw [HF.out.2]; rfl) HF.out.1.symm hM6 (Hg.out.upd HFst.out HI.out) (hch9.trans hch6)
    | none =>
      have HX := Lib.hid hgx
      clear hgx
      have HOf := Lib.hid (fun W (h : Row W B c.p.A (c.p.zs.map (.int .u8))) (hb : B ≤ W.heap.size) => of_any c.p.A c.p.cap B c.p.zs W h hb hcb (by omega))
      by_cases hi : idOf c.p.zs = (xs, xn)
      · have HF := Lib.hid (fnd_ok HFst.out hi)
        have HI := Lib.hid hi
        have e0 : sumZ c.p.zs = xs := congrArg Prod.fst hi
        have e1 : (c.p.zs.length : Int) = xn := congrArg Prod.snd hi
        rw [e0, e1] at HOf
        clear e0 e1 hi
        go_enter Try.func57, Try.ntmps57
        unfold Part.v at hlk
        go_wp2_with fail
        generalize (w.alloc (.cells #[.map (some b1), .map (some b2)] 94)).alloc (.cells #[.int .u64 xs, .int .i64 xn] 51) = w2 at *
        generalize w.heap.size = gc at *
        refine wp_region_g 9 (by kernel_rfl) ?_
        have HL := Lib.hid (fun W (h : Grew w2 W) => by have := (k2.of h).get wx Try.underlying92 (z := .bool false) (by kernel_rfl); rw [HX.out] at this; exact this)
        refine AllC.head 0 9 (fuel := 1) (by first | exact fun h k => Grew.trans h k | exact fun h k => cls_grew h k) (grew_drew _) (by rfl) (by kernel_rfl) ?_
        simp only [List.take_succ_cons, List.take_zero, List.drop_succ_cons, List.drop_zero]
        repeat (first
          | (refine HeadC.val (by rfl) ?_
             apply Exists.intro
             refine ⟨fun w' hw' => ?_, ?_⟩
             · (have hf_0 := cell_up hw' s1; have hf_1 := cell_up hw' i0; have hf_2 := cell_up hw' i1; have hf_3 := HL.out _ hw'; (go_simp) <;> (try go_ints) <;> with_reducible rfl)
             try simp only [Act.put, List.setIfInBounds_toArray, List.set_cons_zero, List.set_cons_succ])
          | (refine HeadC.call (by rfl) ?_
             apply Exists.intro; apply Exists.intro
             refine ⟨fun w' hw' => ?_, ?_⟩
             · (have hf_0 := cell_up hw' s1; have hf_1 := cell_up hw' i0; have hf_2 := cell_up hw' i1; have hf_3 := HL.out _ hw'; (go_simp) <;> first | (refine ⟨?_, ?_⟩ <;> with_reducible rfl) | with_reducible rfl)
             apply Exists.intro
             refine ⟨fun w' hw' => ?_, ?_⟩
             · (first | exact HOf.out _ (hrow.up hw' hB2) (Nat.le_trans hB2 hw'.size))
             try simp only [Act.put, List.setIfInBounds_toArray, List.set_cons_zero, List.set_cons_succ])
          | (refine HeadC.shut (by rfl) ?_
             try simp only [Act.put, List.setIfInBounds_toArray, List.set_cons_zero, List.set_cons_succ]))
        refine HeadC.nil ?_
        refine AllC.tail 9 (by rfl) (by kernel_rfl) ?_
        intro wt hwt
        simp only [List.drop_succ_cons, List.drop_zero]
        have hg9 := (grew_drew w2).trans hwt
        have s1' := cell_up hg9 s1
        have i0' := cell_up hg9 i0
        have i1' := cell_up hg9 i1
        have k2' := k2.of hg9
        have hch9 := hch0.next hg9
        clear hwt s0 s1 i0 i1 hlk
        go_wp2_with (at_mapUpdate; refine wpList_store_id rfl (.tmp 28) (.tmp 29) (.const (.bool true)) rfl Try.underlying92 rfl k2' hm2 (xs, xn) rfl wx rfl ?_; intro w6 hM6 hch6)
        go_ret2
        exact bytes_end (by rw [HF.out.2]; rfl) HF.out.1.symm hM6 (Hg.out.upd HFst.out HI.out) (hch9.trans hch6)
      · have HF := Lib.hid (fnd_bad HFst.out hi)
        rcases id_ne hi with hne | ⟨h0, hne⟩
        · clear hi
          go_enter Try.func57, Try.ntmps57
          unfold Part.v at hlk
          go_wp2_with fail
          generalize (w.alloc (.cells #[.map (some b1), .map (some b2)] 94)).alloc (.cells #[.int .u64 xs, .int .i64 xn] 51) = w2 at *
          generalize w.heap.size = gc at *
          refine wp_region_g 9 (by kernel_rfl) ?_
          have HL := Lib.hid (fun W (h : Grew w2 W) => by have := (k2.of h).get wx Try.underlying92 (z := .bool false) (by kernel_rfl); rw [HX.out] at this; exact this)
          refine AllC.head 0 9 (fuel := 1) (by first | exact fun h k => Grew.trans h k | exact fun h k => cls_grew h k) (grew_drew _) (by rfl) (by kernel_rfl) ?_
          simp only [List.take_succ_cons, List.take_zero, List.drop_succ_cons, List.drop_zero]
          repeat (first
            | (refine HeadC.val (by rfl) ?_
               apply Exists.intro
               refine ⟨fun w' hw' => ?_, ?_⟩
               · (have hf_0 := cell_up hw' s1; have hf_1 := cell_up hw' i0; have hf_2 := cell_up hw' i1; have hf_3 := HL.out _ hw'; (go_simp) <;> (try go_ints) <;> with_reducible rfl)
               try simp only [Act.put, List.setIfInBounds_toArray, List.set_cons_zero, List.set_cons_succ])
            | (refine HeadC.call (by rfl) ?_
               apply Exists.intro; apply Exists.intro
               refine ⟨fun w' hw' => ?_, ?_⟩
               · (have hf_0 := cell_up hw' s1; have hf_1 := cell_up hw' i0; have hf_2 := cell_up hw' i1; have hf_3 := HL.out _ hw'; (go_simp) <;> first | (refine ⟨?_, ?_⟩ <;> with_reducible rfl) | with_reducible rfl)
               apply Exists.intro
               refine ⟨fun w' hw' => ?_, ?_⟩
               · (first | exact HOf.out _ (hrow.up hw' hB2) (Nat.le_trans hB2 hw'.size))
               try simp only [Act.put, List.setIfInBounds_toArray, List.set_cons_zero, List.set_cons_succ])
            | (refine HeadC.shut (by rfl) ?_
               try simp only [Act.put, List.setIfInBounds_toArray, List.set_cons_zero, List.set_cons_succ]))
          refine HeadC.nil ?_
          refine AllC.tail 9 (by rfl) (by kernel_rfl) ?_
          intro wt hwt
          simp only [List.drop_succ_cons, List.drop_zero]
          have hg9 := (grew_drew w2).trans hwt
          go_wp2_with fail
          go_ret2
          exact bytes_end (by rw [HF.out.2]; rfl) HF.out.1.symm ((k2.of hg9).mono (Nat.le_succ _)) Hg.out (hch0.next hg9)
        · clear hi
          rw [h0] at HOf
          clear h0
          go_enter Try.func57, Try.ntmps57
          unfold Part.v at hlk
          go_wp2_with fail
          generalize (w.alloc (.cells #[.map (some b1), .map (some b2)] 94)).alloc (.cells #[.int .u64 xs, .int .i64 xn] 51) = w2 at *
          generalize w.heap.size = gc at *
          refine wp_region_g 9 (by kernel_rfl) ?_
          have HL := Lib.hid (fun W (h : Grew w2 W) => by have := (k2.of h).get wx Try.underlying92 (z := .bool false) (by kernel_rfl); rw [HX.out] at this; exact this)
          refine AllC.head 0 9 (fuel := 1) (by first | exact fun h k => Grew.trans h k | exact fun h k => cls_grew h k) (grew_drew _) (by rfl) (by kernel_rfl) ?_
          simp only [List.take_succ_cons, List.take_zero, List.drop_succ_cons, List.drop_zero]
          repeat (first
            | (refine HeadC.val (by rfl) ?_
               apply Exists.intro
               refine ⟨fun w' hw' => ?_, ?_⟩
               · (have hf_0 := cell_up hw' s1; have hf_1 := cell_up hw' i0; have hf_2 := cell_up hw' i1; have hf_3 := HL.out _ hw'; (go_simp) <;> (try go_ints) <;> with_reducible rfl)
               try simp only [Act.put, List.setIfInBounds_toArray, List.set_cons_zero, List.set_cons_succ])
            | (refine HeadC.call (by rfl) ?_
               apply Exists.intro; apply Exists.intro
               refine ⟨fun w' hw' => ?_, ?_⟩
               · (have hf_0 := cell_up hw' s1; have hf_1 := cell_up hw' i0; have hf_2 := cell_up hw' i1; have hf_3 := HL.out _ hw'; (go_simp) <;> first | (refine ⟨?_, ?_⟩ <;> with_reducible rfl) | with_reducible rfl)
               apply Exists.intro
               refine ⟨fun w' hw' => ?_, ?_⟩
               · (first | exact HOf.out _ (hrow.up hw' hB2) (Nat.le_trans hB2 hw'.size))
               try simp only [Act.put, List.setIfInBounds_toArray, List.set_cons_zero, List.set_cons_succ])
            | (refine HeadC.shut (by rfl) ?_
               try simp only [Act.put, List.setIfInBounds_toArray, List.set_cons_zero, List.set_cons_succ]))
          refine HeadC.nil ?_
          refine AllC.tail 9 (by rfl) (by kernel_rfl) ?_
          intro wt hwt
          simp only [List.drop_succ_cons, List.drop_zero]
          have hg9 := (grew_drew w2).trans hwt
          go_wp2_with fail
          go_ret2
          exact bytes_end (by rw [HF.out.2]; rfl) HF.out.1.symm ((k2.of hg9).mono (Nat.le_succ _)) Hg.out (hch0.next hg9)

end Go.Proofs.Ytnjhipnfhapngaa
