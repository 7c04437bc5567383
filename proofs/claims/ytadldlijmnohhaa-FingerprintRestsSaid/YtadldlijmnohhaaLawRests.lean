/-
  stockyardlaw22.FingerprintRests returns true.
-/
import Derived.Test.YtadldlijmnohhaaRest
import Derived.Test.YtadldlijmnohhaaRegR
import Derived.Test.YtadldlijmnohhaaMade
import Derived.Test.YtadldlijmnohhaaKnown22
namespace Go.Proofs.Ytadldlijmnohhaa
set_option linter.unusedVariables false
set_option linter.unusedSimpArgs false
set_option linter.unnecessarySimpa false
open Go.RowKit
attribute [local go_sem ↓] Go.wp_at_zero Go.wp_at_succ

set_option maxHeartbeats 1000000 in
theorem lawRests_any (a b c d : Int) (a0 : 0 ≤ a) (a1 : a < 18446744073709551616) (b0 : -9223372036854775808 ≤ b) (b1 : b ≤ 9223372036854775807) (c0 : 0 ≤ c) (c1 : c < 18446744073709551616) (d0 : -9223372036854775808 ≤ d) (d1 : d ≤ 9223372036854775807) (w : World) :
    Calls Try.prog 13 #[.agg #[.int .u64 a, .int .i64 b], .agg #[.int .u64 c, .int .i64 d]] w fun e w' => e = .returned (.bool true) ∧ Below w.heap.size w w' := by
  obtain ⟨r, hr⟩ : ∃ r, restR a b c d = r := ⟨_, rfl⟩
  have HJ := Lib.hid hr
  clear hr
  go_enter Try.func13, Try.ntmps13
  go_wp2_with fail
  refine (rest_any _ _ _ _ a0 c0 b0 d0 _).mono ?_
  rintro e w1 ⟨rfl, hb⟩
  rw [HJ.out]
  unfold idErr
  have ha : Bx w1 w.heap.size a b := ((Bx.new w a b).al _).of hb
  have hc : Bx w1 (w.heap.size + 1) c d := (Bx.new' (w := w.alloc _) c d (by simp)).of hb
  have fr : Fr w w1 := (((Fr.refl w).al _).al _).of hb
  clear hb
  have ⟨xa0, xa1, xa2, xa3, xa4⟩ := ha.facts
  have ⟨xc0, xc1, xc2, xc3, xc4⟩ := hc.facts
  go_wp2_with fail
  refine (refRest_any _ _ _ _ a0 c0 b0 d0 _).mono ?_
  rintro e w2 ⟨rfl, hb⟩
  rw [HJ.out]
  unfold idErr
  have hx : Bx w2 w1.heap.size r.1 r.2.1 := (Bx.new w1 _ _).of hb
  replace ha : Bx w2 w.heap.size a b := (by first | with_reducible exact (ha).of hb | with_reducible exact (ha.al _).of hb | with_reducible exact ((ha.al _).al _).of hb | with_reducible exact (((ha.al _).al _).al _).of hb | with_reducible exact (ha.dr).of hb | with_reducible exact ((ha.al _).dr).of hb | with_reducible exact (((ha.al _).al _).dr).of hb | with_reducible exact (ha.drN _).of hb | with_reducible exact ((ha.al _).drN _).of hb)
  replace hc : Bx w2 (w.heap.size + 1) c d := (by first | with_reducible exact (hc).of hb | with_reducible exact (hc.al _).of hb | with_reducible exact ((hc.al _).al _).of hb | with_reducible exact (((hc.al _).al _).al _).of hb | with_reducible exact (hc.dr).of hb | with_reducible exact ((hc.al _).dr).of hb | with_reducible exact (((hc.al _).al _).dr).of hb | with_reducible exact (hc.drN _).of hb | with_reducible exact ((hc.al _).drN _).of hb)
  replace fr : Fr w w2 := (by first | with_reducible exact (fr).of hb | with_reducible exact (fr.al _).of hb | with_reducible exact ((fr.al _).al _).of hb | with_reducible exact (((fr.al _).al _).al _).of hb | with_reducible exact (fr.dr).of hb | with_reducible exact ((fr.al _).dr).of hb | with_reducible exact (((fr.al _).al _).dr).of hb | with_reducible exact (fr.drN _).of hb | with_reducible exact ((fr.al _).drN _).of hb)
  clear hb xa0 xa1 xa2 xa3 xa4 xc0 xc1 xc2 xc3 xc4
  have ⟨xa0, xa1, xa2, xa3, xa4⟩ := ha.facts
  have ⟨xc0, xc1, xc2, xc3, xc4⟩ := hc.facts
  go_wp2_with fail
  refine (made_any _ _ _ a0 a1 b0 b1 (by omega) (by omega) _).mono ?_
  rintro e w3 ⟨rfl, hb⟩
  have hy : Bx w3 w2.heap.size r.1 r.2.1 := (Bx.new w2 _ _).of hb
  replace ha : Bx w3 w.heap.size a b := (by first | with_reducible exact (ha).of hb | with_reducible exact (ha.al _).of hb | with_reducible exact ((ha.al _).al _).of hb | with_reducible exact (((ha.al _).al _).al _).of hb | with_reducible exact (ha.dr).of hb | with_reducible exact ((ha.al _).dr).of hb | with_reducible exact (((ha.al _).al _).dr).of hb | with_reducible exact (ha.drN _).of hb | with_reducible exact ((ha.al _).drN _).of hb)
  replace hc : Bx w3 (w.heap.size + 1) c d := (by first | with_reducible exact (hc).of hb | with_reducible exact (hc.al _).of hb | with_reducible exact ((hc.al _).al _).of hb | with_reducible exact (((hc.al _).al _).al _).of hb | with_reducible exact (hc.dr).of hb | with_reducible exact ((hc.al _).dr).of hb | with_reducible exact (((hc.al _).al _).dr).of hb | with_reducible exact (hc.drN _).of hb | with_reducible exact ((hc.al _).drN _).of hb)
  replace hx : Bx w3 w1.heap.size r.1 r.2.1 := (by first | with_reducible exact (hx).of hb | with_reducible exact (hx.al _).of hb | with_reducible exact ((hx.al _).al _).of hb | with_reducible exact (((hx.al _).al _).al _).of hb | with_reducible exact (hx.dr).of hb | with_reducible exact ((hx.al _).dr).of hb | with_reducible exact (((hx.al _).al _).dr).of hb | with_reducible exact (hx.drN _).of hb | with_reducible exact ((hx.al _).drN _).of hb)
  replace fr : Fr w w3 := (by first | with_reducible exact (fr).of hb | with_reducible exact (fr.al _).of hb | with_reducible exact ((fr.al _).al _).of hb | with_reducible exact (((fr.al _).al _).al _).of hb | with_reducible exact (fr.dr).of hb | with_reducible exact ((fr.al _).dr).of hb | with_reducible exact (((fr.al _).al _).dr).of hb | with_reducible exact (fr.drN _).of hb | with_reducible exact ((fr.al _).drN _).of hb)
  clear hb xa0 xa1 xa2 xa3 xa4 xc0 xc1 xc2 xc3 xc4
  have ⟨xa0, xa1, xa2, xa3, xa4⟩ := ha.facts
  have ⟨xc0, xc1, xc2, xc3, xc4⟩ := hc.facts
  have p0 : (0 : Int) ≤ madeS a b 1048576 := (madeS_fp a b 1048576).1
  have p1 := foldI_lo b (1048576 + 1)
  have p2 := foldI_hi b (1048576 + 1) (by omega)
  generalize madeS a b 1048576 = s1 at *
  generalize foldI b (1048576 + 1) = n1 at *
  go_wp2_with fail
  refine (made_any _ _ _ c0 c1 d0 d1 (by omega) (by omega) _).mono ?_
  rintro e w4 ⟨rfl, hb⟩
  have hp : Bx w4 w3.heap.size s1 n1 := (Bx.new w3 _ _).of hb
  replace hx : Bx w4 w1.heap.size r.1 r.2.1 := (by first | with_reducible exact (hx).of hb | with_reducible exact (hx.al _).of hb | with_reducible exact ((hx.al _).al _).of hb | with_reducible exact (((hx.al _).al _).al _).of hb | with_reducible exact (hx.dr).of hb | with_reducible exact ((hx.al _).dr).of hb | with_reducible exact (((hx.al _).al _).dr).of hb | with_reducible exact (hx.drN _).of hb | with_reducible exact ((hx.al _).drN _).of hb)
  replace hy : Bx w4 w2.heap.size r.1 r.2.1 := (by first | with_reducible exact (hy).of hb | with_reducible exact (hy.al _).of hb | with_reducible exact ((hy.al _).al _).of hb | with_reducible exact (((hy.al _).al _).al _).of hb | with_reducible exact (hy.dr).of hb | with_reducible exact ((hy.al _).dr).of hb | with_reducible exact (((hy.al _).al _).dr).of hb | with_reducible exact (hy.drN _).of hb | with_reducible exact ((hy.al _).drN _).of hb)
  replace fr : Fr w w4 := (by first | with_reducible exact (fr).of hb | with_reducible exact (fr.al _).of hb | with_reducible exact ((fr.al _).al _).of hb | with_reducible exact (((fr.al _).al _).al _).of hb | with_reducible exact (fr.dr).of hb | with_reducible exact ((fr.al _).dr).of hb | with_reducible exact (((fr.al _).al _).dr).of hb | with_reducible exact (fr.drN _).of hb | with_reducible exact ((fr.al _).drN _).of hb)
  clear hb xa0 xa1 xa2 xa3 xa4 xc0 xc1 xc2 xc3 xc4 ha hc
  have q0 : (0 : Int) ≤ madeS c d n1 := (madeS_fp c d n1).1
  have q1 := foldI_lo d (n1 + 1)
  generalize madeS c d n1 = s2 at *
  generalize foldI d (n1 + 1) = n2 at *
  obtain ⟨k, hk⟩ : ∃ k, restR s1 n1 s2 n2 = k := ⟨_, rfl⟩
  have HK := Lib.hid hk
  clear hk
  have ⟨xa0, xa1, xa2, xa3, xa4⟩ := hp.facts
  go_wp2_with fail
  refine (rest_any s1 n1 s2 n2 p0 q0 (by omega) (by omega) _).mono ?_
  rintro e w5 ⟨rfl, hb⟩
  rw [HK.out]
  unfold idErr
  have hq : Bx w5 w4.heap.size s2 n2 := (Bx.new w4 _ _).of hb
  replace hp : Bx w5 w3.heap.size s1 n1 := (by first | with_reducible exact (hp).of hb | with_reducible exact (hp.al _).of hb | with_reducible exact ((hp.al _).al _).of hb | with_reducible exact (((hp.al _).al _).al _).of hb | with_reducible exact (hp.dr).of hb | with_reducible exact ((hp.al _).dr).of hb | with_reducible exact (((hp.al _).al _).dr).of hb | with_reducible exact (hp.drN _).of hb | with_reducible exact ((hp.al _).drN _).of hb)
  replace hx : Bx w5 w1.heap.size r.1 r.2.1 := (by first | with_reducible exact (hx).of hb | with_reducible exact (hx.al _).of hb | with_reducible exact ((hx.al _).al _).of hb | with_reducible exact (((hx.al _).al _).al _).of hb | with_reducible exact (hx.dr).of hb | with_reducible exact ((hx.al _).dr).of hb | with_reducible exact (((hx.al _).al _).dr).of hb | with_reducible exact (hx.drN _).of hb | with_reducible exact ((hx.al _).drN _).of hb)
  replace hy : Bx w5 w2.heap.size r.1 r.2.1 := (by first | with_reducible exact (hy).of hb | with_reducible exact (hy.al _).of hb | with_reducible exact ((hy.al _).al _).of hb | with_reducible exact (((hy.al _).al _).al _).of hb | with_reducible exact (hy.dr).of hb | with_reducible exact ((hy.al _).dr).of hb | with_reducible exact (((hy.al _).al _).dr).of hb | with_reducible exact (hy.drN _).of hb | with_reducible exact ((hy.al _).drN _).of hb)
  replace fr : Fr w w5 := (by first | with_reducible exact (fr).of hb | with_reducible exact (fr.al _).of hb | with_reducible exact ((fr.al _).al _).of hb | with_reducible exact (((fr.al _).al _).al _).of hb | with_reducible exact (fr.dr).of hb | with_reducible exact ((fr.al _).dr).of hb | with_reducible exact (((fr.al _).al _).dr).of hb | with_reducible exact (fr.drN _).of hb | with_reducible exact ((fr.al _).drN _).of hb)
  clear hb xa0 xa1 xa2 xa3 xa4
  have ⟨xa0, xa1, xa2, xa3, xa4⟩ := hp.facts
  have ⟨xc0, xc1, xc2, xc3, xc4⟩ := hq.facts
  go_wp2_with fail
  refine (refRest_any s1 n1 s2 n2 p0 q0 (by omega) (by omega) _).mono ?_
  rintro e w6 ⟨rfl, hb⟩
  rw [HK.out]
  unfold idErr
  have hz : Bx w6 w5.heap.size k.1 k.2.1 := (Bx.new w5 _ _).of hb
  replace hx : Bx w6 w1.heap.size r.1 r.2.1 := (by first | with_reducible exact (hx).of hb | with_reducible exact (hx.al _).of hb | with_reducible exact ((hx.al _).al _).of hb | with_reducible exact (((hx.al _).al _).al _).of hb | with_reducible exact (hx.dr).of hb | with_reducible exact ((hx.al _).dr).of hb | with_reducible exact (((hx.al _).al _).dr).of hb | with_reducible exact (hx.drN _).of hb | with_reducible exact ((hx.al _).drN _).of hb)
  replace hy : Bx w6 w2.heap.size r.1 r.2.1 := (by first | with_reducible exact (hy).of hb | with_reducible exact (hy.al _).of hb | with_reducible exact ((hy.al _).al _).of hb | with_reducible exact (((hy.al _).al _).al _).of hb | with_reducible exact (hy.dr).of hb | with_reducible exact ((hy.al _).dr).of hb | with_reducible exact (((hy.al _).al _).dr).of hb | with_reducible exact (hy.drN _).of hb | with_reducible exact ((hy.al _).drN _).of hb)
  replace fr : Fr w w6 := (by first | with_reducible exact (fr).of hb | with_reducible exact (fr.al _).of hb | with_reducible exact ((fr.al _).al _).of hb | with_reducible exact (((fr.al _).al _).al _).of hb | with_reducible exact (fr.dr).of hb | with_reducible exact ((fr.al _).dr).of hb | with_reducible exact (((fr.al _).al _).dr).of hb | with_reducible exact (fr.drN _).of hb | with_reducible exact ((fr.al _).drN _).of hb)
  clear hb xa0 xa1 xa2 xa3 xa4 xc0 xc1 xc2 xc3 xc4 hp hq p0 p1 p2 q0 q1
  go_wp2_with fail
  have hv := Bx.new w6 k.1 k.2.1
  replace hx := hx.al (.cells #[.int .u64 k.1, .int .i64 k.2.1] 24)
  replace hy := hy.al (.cells #[.int .u64 k.1, .int .i64 k.2.1] 24)
  replace hz := hz.al (.cells #[.int .u64 k.1, .int .i64 k.2.1] 24)
  replace fr := fr.al (.cells #[.int .u64 k.1, .int .i64 k.2.1] 24)
  refine (known22_any _).mono ?_
  rintro e w7 ⟨rfl, hb⟩
  have ⟨ya0, ya1, ya2, _, _⟩ := (hx.of hb).facts
  have ⟨yb0, yb1, yb2, _, _⟩ := (hy.of hb).facts
  have ⟨yc0, yc1, yc2, _, _⟩ := (hz.of hb).facts
  have ⟨yd0, yd1, yd2, _, _⟩ := (hv.of hb).facts
  have fr5 := fr.of hb
  clear hb hx hy hz hv fr
  go_wp2_with fail
  go_ret
  exact ⟨ret_bool (by simp), fr5.b⟩

end Go.Proofs.Ytadldlijmnohhaa
