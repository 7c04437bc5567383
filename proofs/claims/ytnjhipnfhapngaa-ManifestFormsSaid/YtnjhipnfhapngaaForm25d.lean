/-
  manifest.Decode.
-/
import Derived.Test.YtnjhipnfhapngaaForm25b
namespace Go.Proofs.Ytnjhipnfhapngaa
section
set_option linter.unusedVariables false
set_option linter.unusedSimpArgs false
set_option linter.unnecessarySimpa false
open Go.RowKit
attribute [local go_sem ↓] Go.wp_at_zero Go.wp_at_succ

theorem numZ_inv {l : List Nat} {most a v b : Nat} {f f1 : Bool} (h : numZ l most f a = (v, f1, b)) : (f1 = true ∧ v = 0 ∧ (f = true ∨ getN l a most = none)) ∨ (f1 = false ∧ f = false ∧ getN l a most = some (v, b)) := by
  by_cases hb : f = true ∨ getN l a most = none
  · rw [numZ_bad hb] at h
    injection h with h1 h2
    injection h2 with h2 h3
    exact .inl ⟨h2.symm, h1.symm, hb⟩
  · have hf : f = false := by cases f; rfl; exact absurd (.inl rfl) hb
    subst hf
    cases hg : getN l a most with
    | none => exact absurd (.inr hg) hb
    | some r =>
      obtain ⟨v', b'⟩ := r
      rw [numZ_ok hg] at h
      injection h with h1 h2
      injection h2 with h2 h3
      subst h1 h2 h3
      exact .inr ⟨rfl, rfl, rfl⟩
theorem numZ_le (l : List Nat) (most a : Nat) (f : Bool) : (numZ l most f a).1 ≤ most := by
  unfold numZ
  cases f
  · cases h : getN l a most with
    | none => simp
    | some r =>
      obtain ⟨v, b⟩ := r
      unfold getN at h
      split at h
      · split at h
        · injection h with h; injection h with h1 h2; subst h1; assumption
        · cases h
      · cases h
  · simp
def primeN : Nat := 2305843009213693951
theorem primeN_cast : ((primeN : Nat) : Int) = 2305843009213693951 := rfl
theorem primeN_lt : primeN < 18446744073709551616 := by unfold primeN; omega
theorem getN_P {l : List Nat} {b s d : Nat} (h : getN l b primeN = some (s, d)) : getN l b maxU = some (s, d) ∧ s ≤ primeN := by
  unfold getN at h ⊢
  cases hu : unA 0 0 (l.drop b) with
  | none => rw [hu] at h; cases h
  | some r =>
    obtain ⟨v, n⟩ := r
    rw [hu] at h
    simp only at h ⊢
    by_cases hv : v ≤ primeN
    · rw [if_pos hv] at h
      injection h with h
      injection h with h1 h2
      subst h1 h2
      rw [if_pos (by unfold primeN at hv; unfold maxU; omega)]
      exact ⟨rfl, hv⟩
    · rw [if_neg hv] at h; cases h
theorem getN_P_no {l : List Nat} {b : Nat} (h : getN l b primeN = none) : getN l b maxU = none ∨ ∃ s d, getN l b maxU = some (s, d) ∧ primeN < s := by
  unfold getN at h ⊢
  cases hu : unA 0 0 (l.drop b) with
  | none => exact .inl rfl
  | some r =>
    obtain ⟨v, n⟩ := r
    rw [hu] at h
    simp only at h ⊢
    by_cases hv : v ≤ primeN
    · rw [if_pos hv] at h; cases h
    · by_cases hm : v ≤ maxU
      · rw [if_pos hm]; exact .inr ⟨v, b + n, rfl, by omega⟩
      · rw [if_neg hm]; exact .inl rfl
theorem okId_big {s n : Nat} (h : primeN < s) : okId ((s : Int), (n : Int)) = false := by
  unfold okId
  rw [Bool.and_eq_false_iff]
  left
  unfold vldB
  unfold primeN at h
  simp
  omega
theorem DecI.fails {l : List Nat} {c a0 k a n a1 v : Nat} {ids : List IdZ} (h : DecI l c a0 k a ids) (hk : k < c) (hG1 : getN l 0 1048576 = some (v, a1)) (hG2 : getN l a1 1024 = some (c, a0))
    {s1 a3 : Nat} {q : Bool} (hz1 : numZ l 8192 false a = (s1, q, a3)) {s2 a4 : Nat} (hz2 : numZ l primeN q a3 = (s2, true, a4)) : decM l = none := by
  rcases numZ_inv hz1 with ⟨rfl, rfl, hq⟩ | ⟨rfl, _, hg⟩
  · rcases hq with hq | hq
    · cases hq
    · exact decM_3 hG1 hG2 (h.bad1 hk hq)
  · rcases numZ_inv hz2 with ⟨_, _, hq⟩ | ⟨hq, _, _⟩
    · rcases hq with hq | hq
      · cases hq
      · rcases getN_P_no hq with hn | ⟨s, d, hs, hb⟩
        · exact decM_3 hG1 hG2 (h.bad2 hk hg hn)
        · cases hd : decIds l c a0 with
          | none => exact decM_3 hG1 hG2 hd
          | some r =>
            obtain ⟨z, ids2⟩ := r
            rw [decM_4 hG1 hG2 hd, if_neg]
            rintro ⟨_, hc⟩
            have hall := (chkM_zero hc).2.1
            rw [h.eq, show c - k = (c - k - 1) + 1 by omega] at hd
            unfold decIds at hd
            rw [hg] at hd; simp only at hd; rw [hs] at hd; simp only at hd
            cases hr : decIds l (c - k - 1) d with
            | none => rw [hr] at hd; cases hd
            | some r =>
              rw [hr] at hd
              simp only [Option.map_some] at hd
              injection hd with hd
              injection hd with _ hd
              have := List.all_eq_true.1 hall (((s : Nat) : Int), (s1 : Int)) (by rw [← hd]; simp)
              rw [okId_big hb] at this; cases this
    · cases hq
set_option maxRecDepth 100000 in
set_option maxHeartbeats 2000000 in
theorem decode_any (A : Option Addr) (cap B : Nat) (l : List Nat) (w : World) (hr : Row w B A (bysN l)) (hB : B ≤ w.heap.size) (hb : ∀ c ∈ l, c < 256) (hc : l.length ≤ cap) (hm : l.length ≤ 4611686018427387904) :
    Calls Try.prog 38 #[.slice A l.length cap] w (DecRes l w) := by
  have g1 := grew_alloc w (.cells #[.slice A l.length cap] 34)
  have k1 := Blk.new w 34 #[.slice A l.length cap]
  have s1 : (w.alloc (.cells #[.slice A l.length cap] 34)).heap.size = w.heap.size + 1 := by simp
  generalize e1 : w.alloc (.cells #[.slice A l.length cap] 34) = w1 at *
  have g2 := grew_alloc w1 (.cells #[.int .i64 0, .slice none 0 0] 31)
  have k2 := Blk.new w1 31 #[.int .i64 0, .slice none 0 0]
  have s2 : (w1.alloc (.cells #[.int .i64 0, .slice none 0 0] 31)).heap.size = w.heap.size + 2 := by simp [s1]
  generalize e2 : w1.alloc (.cells #[.int .i64 0, .slice none 0 0] 31) = w2 at *
  have g3 := grew_alloc w2 (.cells #[.int .i64 0] 3)
  have k3 := Blk.new w2 3 #[.int .i64 0]
  have s3 : (w2.alloc (.cells #[.int .i64 0] 3)).heap.size = w.heap.size + 3 := by simp [s2]
  generalize e3 : w2.alloc (.cells #[.int .i64 0] 3) = w3 at *
  have g4 := grew_alloc w3 (.cells #[.bool false] 4)
  have k4 := Blk.new w3 4 #[.bool false]
  have s4 : (w3.alloc (.cells #[.bool false] 4)).heap.size = w.heap.size + 4 := by simp [s3]
  have gAll : Grew w (w3.alloc (.cells #[.bool false] 4)) := ((g1.trans g2).trans g3).trans g4
  replace k1 := ((k1.of g2).of g3).of g4
  replace k2 := (k2.of g3).of g4
  replace k3 := k3.of g4
  rw [s1] at k2
  rw [s2] at k3
  rw [s3] at k4
  have hr4 := hr.below gAll hB
  subst e3
  subst e2
  subst e1
  clear g1 g2 g3 g4 s1 s2 s3
  have hmf : ∀ (fn : Fn) (first cap : Array Value) (w : World), (Instr.makeFunc fn first cap).run Try.prog w = .ok (.func fn first cap) w := fun _ _ _ _ => rfl
  have HN := Lib.hid (fun (W : World) (ga gf : Nat) (most a : Nat) (f : Bool) (h : Row W B A (bysN l)) (ha : a ≤ l.length) (hmo : most < 18446744073709551616) => number_any A cap B w.heap.size ga gf l most a f W h hb hc hm ha hmo)
  go_enter Try.func38, Try.ntmps38
  go_wp2_with fail
  generalize (((w.alloc (.cells #[.slice A l.length cap] 34)).alloc (.cells #[.int .i64 0, .slice none 0 0] 31)).alloc (.cells #[.int .i64 0] 3)).alloc (.cells #[.bool false] 4) = wz at *
  have N1 := HN.out wz (w.heap.size + 1 + 1) (w.heap.size + 1 + 1 + 1) 1048576 0 false hr4 (Nat.zero_le _) (by omega) k1 k3 k4 (by omega) (by omega)
  generalize hgb : w.heap.size = gb at *
  have HGb := Lib.hid hgb
  clear hgb
  refine N1.mono ?_
  unfold NumRes
  rintro e w5 ⟨rfl, n4, n3, hal, hch⟩
  clear N1 k3 k4
  have hv := numZ_le l 1048576 0 false
  generalize hz : numZ l 1048576 false 0 = z at *
  have HZ1 := Lib.hid hz
  clear hz
  obtain ⟨v, f, a⟩ := z
  simp only at n4 n3 hal hv ⊢
  have hsz := hch.size
  have gAllB : Below gb w wz := by have h : Below w.heap.size w wz := gAll; rw [HGb.out] at h; exact h
  rw [show gb + 4 = gb + 1 + 1 + 1 + 1 from rfl] at s4
  replace k1 := k1.ch hch (by intro h; rcases h with h | h <;> omega)
  replace k2 := k2.ch hch (by intro h; rcases h with h | h <;> omega)
  replace hr4 := hr4.ch hch (by omega) (fun j hj => by rcases hj with h | h <;> omega)
  have g5 : Below gb w w5 := Below.trans (B := gb) gAllB (hch.below (by omega) (fun j hj => by rcases hj with h | h <;> omega))
  have hszw : gb + 1 + 1 + 1 + 1 ≤ w5.heap.size := by omega
  clear hch gAll gAllB hsz s4
  have gM := grew_alloc w5 (.cells #[.int .i64 (v : Nat), .slice none 0 0] 31)
  have kM := Blk.new w5 31 #[.int .i64 (v : Nat), .slice none 0 0]
  have sM : (w5.alloc (.cells #[.int .i64 (v : Nat), .slice none 0 0] 31)).heap.size = w5.heap.size + 1 := by simp
  replace k1 := k1.of gM
  replace k2 := k2.of gM
  replace n3 := n3.of gM
  replace n4 := n4.of gM
  replace hr4 := hr4.below gM (by omega)
  replace g5 : Below gb w (w5.alloc (.cells #[.int .i64 (v : Nat), .slice none 0 0] 31)) := Below.trans (B := gb) g5 (gM.mono (by omega))
  clear gM wz
  have hwv : IntKind.i64.wrap (v : Int) = v := Go.IntWalk.i64_in _ (by omega)
  have hvI : (v : Int) ≤ 1048576 := by omega
  have hgo : gb < gb + 1 + 1 ∧ gb + 1 + 1 < gb + 1 + 1 + 1 := ⟨by omega, by omega⟩
  have hgr : gb + 1 < gb + 1 + 1 ∧ gb < gb + 1 := ⟨by omega, by omega⟩
  generalize gb + 1 + 1 + 1 = gf at *
  generalize gb + 1 + 1 = ga at *
  generalize gb + 1 = gr at *
  go_wp2_with fail
  have N2 := HN.out _ ga gf 1024 a f hr4 hal (by omega) k1 n3 n4 hgo.1 hgo.2
  generalize w5.alloc (.cells #[.int .i64 (v : Nat), .slice none 0 0] 31) = w6 at *
  refine N2.mono ?_
  unfold NumRes
  rintro e w7 ⟨rfl, p4, p3, hal2, hch⟩
  clear N2 n3 n4
  have hc1 := numZ_le l 1024 a f
  generalize hz : numZ l 1024 f a = z at *
  have HZ2 := Lib.hid hz
  clear hz
  obtain ⟨c, f1, b⟩ := z
  simp only at p4 p3 hal2 hc1 ⊢
  have hsz := hch.size
  replace k1 := k1.ch hch (by intro h; rcases h with h | h <;> omega)
  replace k2 := k2.ch hch (by intro h; rcases h with h | h <;> omega)
  replace kM := kM.ch hch (by intro h; rcases h with h | h <;> omega)
  replace hr4 := hr4.ch hch (by omega) (fun j hj => by rcases hj with h | h <;> omega)
  replace g5 : Below gb w w7 := Below.trans (B := gb) g5 (hch.below (by omega) (fun j hj => by rcases hj with h | h <;> omega))
  replace sM := Nat.le_trans (Nat.le_of_eq sM.symm) hsz
  have hgfM : gf < w5.heap.size := by omega
  clear hch hsz w6 hal
  generalize w5.heap.size = gm at *
  go_wp2_with fail
  rcases numZ_inv HZ2.out with ⟨rfl, rfl, hq⟩ | ⟨rfl, rfl, hG2⟩
  · have hD : decM l = none := by
      rcases numZ_inv HZ1.out with ⟨_, _, h⟩ | ⟨hf, _, hG1⟩
      · rcases h with h | h
        · cases h
        · exact decM_1 h
      · rcases hq with h | h
        · rw [hf] at h; cases h
        · exact decM_2 hG1 h
    obtain ⟨q1, q2, q3⟩ := dec_no hD
    have y0 := k2.frozen 0
    have y1 := k2.frozen 1
    have x0 := (k2.cell 0).trans (show _ = some (.int .i64 0) from rfl)
    have x1 := (k2.cell 1).trans (show _ = some (.slice none 0 0) from rfl)
    have xf := (p4.cell 0).trans (show _ = some (.bool true) from rfl)
    go_loopw [16] (fun i wr => i = .int .u64 0 ∧ wr = w7) (fun _ _ => 0)
    case atStart => exact ⟨rfl, rfl⟩
    case round =>
      obtain ⟨rfl, rfl⟩ := hrel
      go_wp2_with fail
      have hF := (k2.set_ 0 (.int .i64 0)).set_ 1 (.slice none 0 0)
      have f0 := (hF.cell 0).trans (show _ = some (.int .i64 0) from rfl)
      have f1 := (hF.cell 1).trans (show _ = some (.slice none 0 0) from rfl)
      have gF := (g5.setCell (p := ⟨gr, 0, none⟩) (by show gb ≤ gr; omega) (.int .i64 0)).setCell (p := ⟨gr, 1, none⟩) (by show gb ≤ gr; omega) (.slice none 0 0)
      refine bodyPost_ret (v := .tuple #[.agg #[.int .i64 0, .slice none 0 0], .int .i64 256]) ?_ rfl ⟨none, 0, by rw [q1, q2, q3]; rfl, .inl (by rw [q2]; rfl), (by rw [q2]; intro x h; cases h), by rw [HGb.out]; exact gF⟩
      simp [results, Try.results38, go_sem, f0, f1]
  · rcases numZ_inv HZ1.out with ⟨hx, _, _⟩ | ⟨_, _, hG1⟩
    · cases hx
    · have HG1 := Lib.hid hG1
      have HG2 := Lib.hid hG2
      clear hG1 hG2 HZ1 HZ2
      go_loopw [16] (fun i wr => ∃ (k a2 : Nat) (ids : List IdZ) (Am : Option Addr) (cm : Nat), i = .int .u64 k ∧ Hid (DecI l c b k a2 ids) ∧ Blk wr gm 31 #[.int .i64 (v : Nat), .slice Am k cm] ∧ Blk wr ga 3 #[.int .i64 (a2 : Nat)] ∧ Blk wr gf 4 #[.bool false] ∧ wr.ownsRow w7.heap.size 51 2 (.slice Am k cm) k (idsC ids) ∧ Ch (fun j => j = ga ∨ j = gf ∨ j = gm) w7 wr) (fun i _ => c - (intOf i).toNat)
      case atStart => exact ⟨0, b, [], none, 0, rfl, Lib.hid (DecI.zero hal2), kM, p3, p4, World.ownsRow_nil _ _ _ _, Ch.refl _ _⟩
      case round =>
        obtain ⟨k, a2, ids, Am, cm, rfl, HD, kMr, p3r, p4r, hown, hch⟩ := hrel
        have hws := hch.size
        have kML := kM.lt
        have k1r := k1.ch hch (by intro h; rcases h with h | h | h <;> omega)
        have k2r := k2.ch hch (by intro h; rcases h with h | h | h <;> omega)
        have hrr := hr4.ch hch (by omega) (fun j hj => by rcases hj with h | h | h <;> omega)
        have gr5 : Below gb w wr := Below.trans (B := gb) g5 (hch.below (by omega) (fun j hj => by rcases hj with h | h | h <;> omega))
        by_cases hlt : k < c
        · have hltI : (k : Int) < (c : Int) := by omega
          have N3 := HN.out wr ga gf 8192 a2 false hrr HD.out.al (by omega) k1r p3r p4r hgo.1 hgo.2
          go_wp2_with fail
          refine N3.mono ?_
          unfold NumRes
          rintro e w8 ⟨rfl, p4s, p3s, hal3, hch3⟩
          clear N3
          have hs1 := numZ_le l 8192 a2 false
          generalize hz : numZ l 8192 false a2 = z at *
          have HZ3 := Lib.hid hz
          clear hz
          obtain ⟨s1, q1, a3⟩ := z
          simp only at p4s p3s hal3 hs1 ⊢
          have hws8 := hch3.size
          replace hch := hch.trans (hch3.mono (T := fun j => j = ga ∨ j = gf ∨ j = gm) (fun j _ hj => by rcases hj with h | h; exact .inl h; exact .inr (.inl h)))
          replace k1r := k1r.ch hch3 (by intro h; rcases h with h | h <;> omega)
          replace k2r := k2r.ch hch3 (by intro h; rcases h with h | h <;> omega)
          replace kMr := kMr.ch hch3 (by intro h; rcases h with h | h <;> omega)
          replace hrr := hrr.ch hch3 (by omega) (fun j hj => by rcases hj with h | h <;> omega)
          replace gr5 : Below gb w w8 := Below.trans (B := gb) gr5 (hch3.below (by omega) (fun j hj => by rcases hj with h | h <;> omega))
          replace hown := own_ch hown hch3 (fun i hi hs => by have := own_lt hown i hi; rcases hs with h | h <;> omega)
          clear hch3 p3r p4r
          have hwk : IntKind.i64.wrap (s1 : Int) = s1 := Go.IntWalk.i64_in _ (by omega)
          have hsI : (s1 : Int) ≤ 8192 := by omega
          have N4 := HN.out w8 ga gf primeN a3 q1 hrr hal3 primeN_lt k1r p3s p4s hgo.1 hgo.2
          rw [primeN_cast] at N4
          go_wp2_with fail
          refine N4.mono ?_
          unfold NumRes
          rintro e w9 ⟨rfl, p4t, p3t, hal4, hch4⟩
          clear N4
          generalize hz : numZ l primeN q1 a3 = z at *
          have HZ4 := Lib.hid hz
          clear hz
          obtain ⟨s2, q2, a4⟩ := z
          simp only at p4t p3t hal4 ⊢
          have hws9 := hch4.size
          replace hch := hch.trans (hch4.mono (T := fun j => j = ga ∨ j = gf ∨ j = gm) (fun j _ hj => by rcases hj with h | h; exact .inl h; exact .inr (.inl h)))
          replace k2r := k2r.ch hch4 (by intro h; rcases h with h | h <;> omega)
          replace kMr := kMr.ch hch4 (by intro h; rcases h with h | h <;> omega)
          replace gr5 : Below gb w w9 := Below.trans (B := gb) gr5 (hch4.below (by omega) (fun j hj => by rcases hj with h | h <;> omega))
          replace hown := own_ch hown hch4 (fun i hi hs => by have := own_lt hown i hi; rcases hs with h | h <;> omega)
          clear hch4 p3s p4s k1r hrr
          have hga := grew_alloc w9 (.cells #[.int .u64 (s2 : Nat), .int .i64 (s1 : Nat)] 51)
          have kX := Blk.new w9 51 #[.int .u64 (s2 : Nat), .int .i64 (s1 : Nat)]
          replace hch := hch.next hga
          replace k2r := k2r.of hga
          replace kMr := kMr.of hga
          replace p4t := p4t.of hga
          replace p3t := p3t.of hga
          replace gr5 : Below gb w (w9.alloc (.cells #[.int .u64 (s2 : Nat), .int .i64 (s1 : Nat)] 51)) := Below.trans (B := gb) gr5 (hga.mono (by omega))
          replace hown := own_below hown hga
          have hwsA := hga.size
          clear hga
          go_upto_region 8 with (fail)
          generalize w9.alloc (.cells #[.int .u64 (s2 : Nat), .int .i64 (s1 : Nat)] 51) = wA at *
          generalize w9.heap.size = gx at *
          cases q2 with
          | true =>
            obtain ⟨d1, d2, d3⟩ := dec_no (HD.out.fails (n := 0) hlt HG1.out HG2.out HZ3.out HZ4.out)
            have y0 := k2r.frozen 0
            have y1 := k2r.frozen 1
            have z0 := (k2r.cell 0).trans (show _ = some (.int .i64 0) from rfl)
            have z1 := (k2r.cell 1).trans (show _ = some (.slice none 0 0) from rfl)
            have xf := (p4t.cell 0).trans (show _ = some (.bool true) from rfl)
            go_wp2_with fail
            have hF := (k2r.set_ 0 (.int .i64 0)).set_ 1 (.slice none 0 0)
            have f0 := (hF.cell 0).trans (show _ = some (.int .i64 0) from rfl)
            have f1 := (hF.cell 1).trans (show _ = some (.slice none 0 0) from rfl)
            have gF := (gr5.setCell (p := ⟨gr, 0, none⟩) (by show gb ≤ gr; omega) (.int .i64 0)).setCell (p := ⟨gr, 1, none⟩) (by show gb ≤ gr; omega) (.slice none 0 0)
            refine bodyPost_ret (v := .tuple #[.agg #[.int .i64 0, .slice none 0 0], .int .i64 256]) ?_ rfl ⟨none, 0, by rw [d1, d2, d3]; rfl, .inl (by rw [d2]; rfl), (by rw [d2]; intro x h; cases h), by rw [HGb.out]; exact gF⟩
            simp [results, Try.results38, go_sem, f0, f1]
          | false =>
            obtain ⟨hq1, hg1, hg2, hs2⟩ : q1 = false ∧ getN l a2 8192 = some (s1, a3) ∧ getN l a3 maxU = some (s2, a4) ∧ s2 ≤ primeN := by
              rcases numZ_inv HZ4.out with ⟨h, _, _⟩ | ⟨_, h1, h2⟩
              · cases h
              · rcases numZ_inv HZ3.out with ⟨h, _, _⟩ | ⟨_, _, h3⟩
                · rw [h1] at h; cases h
                · exact ⟨h1, h3, getN_P h2⟩
            have HS := Lib.hid (HD.out.step hlt hg1 hg2 hal4 ⟨⟨by show (0 : Int) ≤ (s2 : Nat); omega, by unfold primeN at hs2; show ((s2 : Nat) : Int) < _; omega⟩, by show (_ : Int) ≤ (s1 : Int); omega, by show (s1 : Int) ≤ _; omega⟩)
            clear hg1 hg2 hq1 hs2 HZ3 HZ4
            have xf := (p4t.cell 0).trans (show _ = some (.bool false) from rfl)
            have m1 := (kMr.cell 1).trans (show _ = some (.slice Am k cm) from rfl)
            have x0 := (kX.cell 0).trans (show _ = some (.int .u64 (s2 : Nat)) from rfl)
            have x1 := (kX.cell 1).trans (show _ = some (.int .i64 (s1 : Nat)) from rfl)
            have hne : (Value.slice Am k cm).ownBlock ≠ some gm := own_blk_ne hown kMr (by decide)
            go_wp2_with (at_builtin; refine wpList_append_row rfl (.tmp 26) (.tmp 28) rfl w7.heap.size elem_id (by rfl) (hown.alloc _) _ (by rfl) (by rfl) (Blk.row (Blk.new wA 51 #[.int .u64 (s2 : Nat), .int .i64 (s1 : Nat)])) (by simp [Value.oneCell']) (by unfold maxLen; omega) (by omega) (by simp; omega) ?_; intro A3 c3 w3 hown3 hg3 hwh3; have hM3 := (kMr.alloc (.cells #[.int .u64 (s2 : Nat), .int .i64 (s1 : Nat)] 51)).ch (Ch.of_own hg3) hne; have f3 := hM3.frozen 1; have m3 : w3.cell? ⟨gm, 1, none⟩ = some (.slice Am k cm) := (hM3.cell 1).trans rfl)
            have hM4 := hM3.set_ 1 (.slice A3 (k + 1) c3)
            have hch3 : Ch (fun j => j = ga ∨ j = gf ∨ j = gm) w7 w3 := (hch.alloc _).nextNew (Ch.of_own hg3) (fun i hi => .inl (by have := own_lt hown i hi; omega))
            have hch4 := hch3.setCell (p := ⟨gm, 1, none⟩) (.inr (.inr (.inr rfl))) (.slice A3 (k + 1) c3)
            have hne3 : (Value.slice A3 (k + 1) c3).ownBlock ≠ some gm := own_blk_ne hown3 hM3 (by decide)
            have hown4 := own_ch hown3 ((Ch.refl (At gm) w3).set_at 1 (.slice A3 (k + 1) c3)) (fun i hi h => hne3 (by rw [hi]; exact congrArg some h))
            have p3u := ((p3t.alloc (.cells #[.int .u64 (s2 : Nat), .int .i64 (s1 : Nat)] 51)).ch (Ch.of_own hg3) (fun h => by have := own_lt hown _ h; omega)).far (p := ⟨gm, 1, none⟩) (by show ga ≠ gm; omega) (.slice A3 (k + 1) c3)
            have p4u := ((p4t.alloc (.cells #[.int .u64 (s2 : Nat), .int .i64 (s1 : Nat)] 51)).ch (Ch.of_own hg3) (fun h => by have := own_lt hown _ h; omega)).far (p := ⟨gm, 1, none⟩) (by show gf ≠ gm; omega) (.slice A3 (k + 1) c3)
            go_roundw
            case rel =>
              refine ⟨k + 1, a4, _, A3, c3, by go_num, HS, hM4, p3u, p4u, ?_, hch4⟩
              rw [idsC_append]
              exact hown4
            case measure => simp [intOf]; omega
        · have hltI : ¬ (k : Int) < (c : Int) := by omega
          have hkc : k = c := by have := HD.out.kc; omega
          have HDk := HD.out
          rw [hkc] at HDk
          have h4 := Lib.hid (decM_4 HG1.out HG2.out HDk.done)
          have hlen : ids.length = k := HD.out.len
          have hlen2 : ids.length ≤ 1024 := by omega
          have hwf := Lib.hid HD.out.wf
          have hrow := own_row hown
          have xf := (p4r.cell 0).trans (show _ = some (.bool false) from rfl)
          have xa := (p3r.cell 0).trans (show _ = some (.int .i64 (a2 : Nat)) from rfl)
          have xb := (k1r.cell 0).trans (show _ = some (.slice A l.length cap) from rfl)
          have m0 := (kMr.cell 0).trans (show _ = some (.int .i64 (v : Nat)) from rfl)
          have m1 := (kMr.cell 1).trans (show _ = some (.slice Am k cm) from rfl)
          have y0 := k2r.frozen 0
          have y1 := k2r.frozen 1
          have z0 := (k2r.cell 0).trans (show _ = some (.int .i64 0) from rfl)
          have z1 := (k2r.cell 1).trans (show _ = some (.slice none 0 0) from rfl)
          clear HDk hkc
          by_cases hal : a2 = l.length
          · have HC := check25_any (v : Nat) Am cm wr.heap.size ids wr hrow (Nat.le_refl _) (by omega)
            rw [hlen] at HC
            have halI : ((a2 : Int) != (l.length : Int)) = false := by rw [hal]; simp
            clear hlen
            go_wp2_with fail
            refine HC.mono ?_
            rintro e w' ⟨rfl, hbw⟩
            clear HC
            replace k2r := k2r.of hbw
            replace kMr := kMr.of hbw
            replace gr5 : Below gb w w' := Below.trans (B := gb) gr5 (hbw.mono (by omega))
            replace y0 := k2r.frozen 0
            replace y1 := k2r.frozen 1
            replace z0 := (k2r.cell 0).trans (show _ = some (.int .i64 0) from rfl)
            replace z1 := (k2r.cell 1).trans (show _ = some (.slice none 0 0) from rfl)
            replace m0 := (kMr.cell 0).trans (show _ = some (.int .i64 (v : Nat)) from rfl)
            replace m1 := (kMr.cell 1).trans (show _ = some (.slice Am k cm) from rfl)
            clear xf xa xb
            have h5 := h4.out
            by_cases hzc : chkM (v : Nat) ids = 0
            · rw [if_pos ⟨hal, hzc⟩] at h5
              obtain ⟨d1, d2, d3⟩ := dec_yes h5
              rw [hzc]
              have HD1 := Lib.hid d1
              have HD2 := Lib.hid d2
              have HD3 := Lib.hid d3
              have HO := Lib.hid (own_below hown hbw)
              have HK := Lib.hid HD.out.len
              clear h5 hzc d1 d2 d3 hal halI hown
              go_wp2_with fail
              have hF := (k2r.set_ 0 (.int .i64 (v : Nat))).set_ 1 (.slice Am k cm)
              have f0 := (hF.cell 0).trans (show _ = some (.int .i64 (v : Nat)) from rfl)
              have f1 := (hF.cell 1).trans (show _ = some (.slice Am k cm) from rfl)
              have gF := (gr5.setCell (p := ⟨gr, 0, none⟩) (by show gb ≤ gr; omega) (.int .i64 (v : Nat))).setCell (p := ⟨gr, 1, none⟩) (by show gb ≤ gr; omega) (.slice Am k cm)
              refine bodyPost_ret (v := .tuple #[.agg #[.int .i64 (v : Nat), .slice Am k cm], .int .i64 0]) ?_ rfl ⟨Am, cm, by rw [HD1.out, HD2.out, HD3.out, HK.out], ?_, by rw [HD2.out]; exact hwf.out, by rw [HGb.out]; exact gF⟩
              · simp [results, Try.results38, go_sem, f0, f1]
              · rw [HD2.out]
                exact own_row (own_ch HO.out (((Ch.refl (At gr) w').set_at 0 (.int .i64 (v : Nat))).set_at 1 (.slice Am k cm)) (fun i hi h => by have h1 := own_lt HO.out i hi; have h2 : i = gr := h; omega))
            · rw [if_neg (fun h => hzc h.2)] at h5
              obtain ⟨d1, d2, d3⟩ := dec_no h5
              have hzn : (chkM (v : Nat) ids != 0) = true := by rw [bne_iff_ne]; exact hzc
              clear h5 hzc hal halI
              generalize chkM (v : Nat) ids = z at *
              go_wp2_with fail
              have hF := (k2r.set_ 0 (.int .i64 0)).set_ 1 (.slice none 0 0)
              have f0 := (hF.cell 0).trans (show _ = some (.int .i64 0) from rfl)
              have f1 := (hF.cell 1).trans (show _ = some (.slice none 0 0) from rfl)
              have gF := (gr5.setCell (p := ⟨gr, 0, none⟩) (by show gb ≤ gr; omega) (.int .i64 0)).setCell (p := ⟨gr, 1, none⟩) (by show gb ≤ gr; omega) (.slice none 0 0)
              refine bodyPost_ret (v := .tuple #[.agg #[.int .i64 0, .slice none 0 0], .int .i64 256]) ?_ rfl ⟨none, 0, by rw [d1, d2, d3]; rfl, .inl (by rw [d2]; rfl), (by rw [d2]; intro x h; cases h), by rw [HGb.out]; exact gF⟩
              simp [results, Try.results38, go_sem, f0, f1]
          · have halI : ((a2 : Int) != (l.length : Int)) = true := by rw [bne_iff_ne]; omega
            have h5 := h4.out
            rw [if_neg (fun h => hal h.1)] at h5
            obtain ⟨d1, d2, d3⟩ := dec_no h5
            clear h5 hlen
            go_wp2_with fail
            have hF := (k2r.set_ 0 (.int .i64 0)).set_ 1 (.slice none 0 0)
            have f0 := (hF.cell 0).trans (show _ = some (.int .i64 0) from rfl)
            have f1 := (hF.cell 1).trans (show _ = some (.slice none 0 0) from rfl)
            have gF := (gr5.setCell (p := ⟨gr, 0, none⟩) (by show gb ≤ gr; omega) (.int .i64 0)).setCell (p := ⟨gr, 1, none⟩) (by show gb ≤ gr; omega) (.slice none 0 0)
            refine bodyPost_ret (v := .tuple #[.agg #[.int .i64 0, .slice none 0 0], .int .i64 256]) ?_ rfl ⟨none, 0, by rw [d1, d2, d3]; rfl, .inl (by rw [d2]; rfl), (by rw [d2]; intro x h; cases h), by rw [HGb.out]; exact gF⟩
            simp [results, Try.results38, go_sem, f0, f1]
end
end Go.Proofs.Ytnjhipnfhapngaa
