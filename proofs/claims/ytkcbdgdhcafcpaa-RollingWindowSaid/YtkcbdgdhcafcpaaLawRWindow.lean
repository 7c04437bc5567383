/-
  stockyardlaw23.RollingWindow returns true.
-/
import Derived.Test.YtkcbdgdhcafcpaaRolled
namespace Go.Proofs.Ytkcbdgdhcafcpaa
set_option linter.unusedVariables false
set_option linter.unusedSimpArgs false
set_option linter.unnecessarySimpa false
open Go.RowKit
attribute [local go_sem ↓] Go.wp_at_zero Go.wp_at_succ

set_option maxHeartbeats 1000000 in
theorem lawRWindow_any (v : Int) (A : Option Addr) (cap : Nat) (zs : List Int) (w : World) (v0 : -9223372036854775808 ≤ v) (v1 : v ≤ 9223372036854775807)
    (hr : Row w w.heap.size A (zs.map (.int .u8))) (hz : ∀ z ∈ zs, 0 ≤ z ∧ z ≤ 255) (hcap : zs.length ≤ cap) (hm : cap ≤ 9223372036854775807) :
    Calls Try.prog 9 #[.int .i64 v, .slice A zs.length cap] w fun e w' => e = .returned (.bool true) ∧ Below w.heap.size w w' := by
  have Hz := Lib.hid hz
  clear hz
  go_enter Try.func9, Try.ntmps9
  go_wp2_with fail
  refine (size23_any v v0 v1 _).mono ?_
  rintro e w0 ⟨n, rfl, n0, n1, hn, rfl⟩
  go_wp2_with fail
  refine (pushed_any n A cap _ zs _ n0 n1 hr (Nat.le_refl _) Hz.out (by omega)).mono ?_
  rintro e w1 ⟨g, rfl, hR, hg, hb1⟩
  have hr1 := hr.below hb1 (Nat.le_refl _)
  go_wp2_with fail
  refine (size23_any v v0 v1 _).mono ?_
  rintro e w0 ⟨n', rfl, _, _, hn', rfl⟩
  obtain rfl : n' = n := by omega
  clear hn hn'
  go_wp2_with fail
  rw [show max (0 : Int) ((zs.length : Int) - n') = ((zs.length - n' : Nat) : Int) by omega]
  have hlast : lastN n' zs = zs.drop (zs.length - n') := rfl
  have hle : zs.length - n' ≤ zs.length := by omega
  rw [hlast] at hR
  clear hlast
  generalize zs.length - n' = f at *
  have hlen : (zs.drop f).length = zs.length - f := List.length_drop
  have hlen' : ((zs.drop f).length : Int) = (zs.length : Int) - f := by rw [hlen]; omega
  have HLen := Lib.hid (fun W (h : Rol W g n' (zs.drop f)) => rLen_any g n' _ W h)
  rw [hlen'] at HLen
  have hr2 := hr1.cut' (lo := f) (m := zs.length - f) (cap := cap) (by omega)
  rw [List.take_of_length_le (by rw [List.length_drop, List.length_map]; omega), ← List.map_drop] at hr2
  have HSum := Lib.hid (fun c W (h : Row W w.heap.size (if cap = f then A else A.map (·.add f)) ((zs.drop f).map (.int .u8))) => sum_any _ c _ (zs.drop f) W h (fun z hz => Hz.out z (List.mem_of_mem_drop hz)) (by omega))
  rw [hlen] at HSum
  clear hlen hlen' hr hr1
  have c1 : (f : Int) ≤ zs.length := by omega
  have c2 : (zs.length : Int) ≤ cap := by omega
  have c3 : (0 : Int) ≤ f := by omega
  by_cases hcf : cap = f
  all_goals
    first | rw [if_neg hcf] at hr2 HSum | rw [if_pos hcf] at hr2 HSum
    refine wp_region_g 23 (by kernel_rfl) ?_
    refine AllC.head 0 23 (fuel := 1) (by first | exact fun h k => Grew.trans h k | exact fun h k => cls_grew h k) (grew_drew _) (by rfl) (by kernel_rfl) ?_
    simp only [List.take_succ_cons, List.take_zero, List.drop_succ_cons, List.drop_zero]
    repeat (first
      | (refine HeadC.val (by rfl) ?_
         apply Exists.intro
         refine ⟨fun w' hw' => ?_, ?_⟩
         · ((go_simp) <;> (try go_ints) <;> with_reducible rfl)
         try simp only [Act.put, List.setIfInBounds_toArray, List.set_cons_zero, List.set_cons_succ])
      | (refine HeadC.call (by rfl) ?_
         apply Exists.intro; apply Exists.intro
         refine ⟨fun w' hw' => ?_, ?_⟩
         · ((go_simp) <;> first | (refine ⟨?_, ?_⟩ <;> with_reducible rfl) | with_reducible rfl)
         apply Exists.intro
         refine ⟨fun w' hw' => ?_, ?_⟩
         · (first | exact known23_any _ | exact grew_same (HLen.out _ (hR.of hw')) | exact grew_same (rSum_any g n' _ _ (hR.of hw')) | exact grew_same (HSum.out _ _ (hr2.below hw' hb1.size)))
         try simp only [Act.put, List.setIfInBounds_toArray, List.set_cons_zero, List.set_cons_succ])
      | (refine HeadC.shut (by rfl) ?_
         try simp only [Act.put, List.setIfInBounds_toArray, List.set_cons_zero, List.set_cons_succ]))
    refine HeadC.nil ?_
    refine AllC.tail 23 (by rfl) (by kernel_rfl) ?_
    intro wt hwt
    simp only [List.drop_succ_cons, List.drop_zero]
    go_wp2_with fail
    go_ret
    exact ⟨by simp, hb1.trans (((grew_drew _).trans hwt).mono hb1.size)⟩

end Go.Proofs.Ytkcbdgdhcafcpaa
