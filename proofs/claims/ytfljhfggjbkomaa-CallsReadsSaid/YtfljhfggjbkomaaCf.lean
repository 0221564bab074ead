import Derived.Test.YtfljhfggjbkomaaCeq
namespace Go.Proofs.Ytfljhfggjbkomaa
open Go.RowKit
attribute [local go_sem] ob_alloc ob_drew ob_drewN ob_setCell ob_setBlock objSet_cells obMap_map obClock_map isMapI_map keyI_mk findI_nil findI_cons lookRes_some lookRes_none lookRes_some' lookRes_none' setBlock_alloc mapPut
attribute [local go_sem ↓] eql69 neq69 eql71 neq71

theorem u64_id {x : Int} (h : 0 ≤ x) (h2 : x ≤ 65535) : IntKind.u64.wrap x = x := by
  unfold IntKind.wrap; simp [IntKind.bits, IntKind.signed]; omega
theorem wraps {k wi ad ma : Int} (h : rightB k wi ad ma = true) : IntKind.u64.wrap wi = wi ∧ IntKind.u64.wrap ad = ad ∧ IntKind.u64.wrap ma = ma := by
  rw [rightB_iff] at h
  exact ⟨u64_id (by omega) (by omega), u64_id (by omega) (by omega), u64_id (by omega) (by omega)⟩
theorem of_put (k wi ad ma : Int) (h : rightB k wi ad ma = true) (r0 r4 r5 r6 r7 pc : Int) (w : World) :
    Calls Try.prog 42 #[.int .i64 k, .agg #[.int .u64 r0, .int .u64 wi, .int .u64 ad, .int .u64 ma, .int .u64 r4, .int .u64 r5, .int .u64 r6, .int .u64 r7, .int .u64 pc]] w fun o w' =>
      o = .returned (.tuple #[.agg #[.int .i64 k, .int .i64 wi, .int .i64 ad, .int .i64 ma], .int .i64 0]) ∧ Keep [] w w' := by
  rw [rightB_iff] at h
  rcases h with ⟨hk, rfl, rfl, rfl⟩ | ⟨hk, a, b, c, d, e, f⟩
  · exact of_03 k hk r0 0 0 0 r4 r5 r6 r7 pc w
  · exact of_yes k hk r0 wi ad ma r4 r5 r6 r7 pc a b c d e f w

set_option maxRecDepth 100000 in
set_option maxHeartbeats 800000 in
theorem back_no (k wi ad ma r0 r1 r2 r3 r4 r5 r6 r7 pc x : Int) (hno : rightB k wi ad ma = false) (h1 : 0 ≤ r1) (h2 : 0 ≤ r2) (h3 : 0 ≤ r3) (w : World) :
    Calls Try.prog 8 #[.agg #[.int .i64 k, .int .i64 wi, .int .i64 ad, .int .i64 ma], .agg #[.int .u64 r0, .int .u64 r1, .int .u64 r2, .int .u64 r3, .int .u64 r4, .int .u64 r5, .int .u64 r6, .int .u64 r7, .int .u64 pc], .int .u64 x] w fun o w' =>
      o = .returned (.bool true) ∧ Keep [] w w' := by
  obtain ⟨a, b, c, d, e, hof, _⟩ := of_both 0 r0 r1 r2 r3 r4 r5 r6 r7 pc h1 h2 h3
  have Hof := Lib.hid hof; clear hof
  go_enter Try.func8, Try.ntmps8
  go_wp2_with fail
  refine (awake_any _).mono ?_
  rintro e w1 ⟨rfl, hk⟩
  have hs := hk.size
  simp at hs
  have e0 := hk.kp (al (al_new w _ rfl)) (by simp)
  have e1 := hk.kp (al_new _ _ (k := w.heap.size + 1) (by simp)) (by simp)
  have c0 := cell_of_ob e0
  have c1 := cell_of_ob e1
  have l0 : w.heap.size < w1.heap.size := by omega
  have l1 : w.heap.size + 1 < w1.heap.size := by omega
  go_wp2_with fail
  refine (put_no k wi ad ma hno _ _).mono ?_
  rintro e w2 ⟨rfl, hk2⟩
  have hs2 := hk2.size
  simp at hs2
  have f0 := hk2.kp (al e0) (by simp)
  have f1 := hk2.kp (al e1) (by simp)
  have f2 := hk2.kp (al_new w1 _ rfl) (by simp)
  clear c0 c1
  have c0 := cell_of_ob f0
  have c1 := cell_of_ob f1
  have c2 := cell_of_ob f2
  go_wp2_with fail
  refine (Hof.out _).mono ?_
  rintro e w3 ⟨rfl, hk3⟩
  have hs3 := hk3.size
  have g0 := hk3.kp f0 (by simp)
  have g1 := hk3.kp f1 (by simp)
  have g2 := hk3.kp f2 (by simp)
  clear c0 c1 c2
  have c0 := cell_of_ob g0
  have c1 := cell_of_ob g1
  have c2 := cell_of_ob g2
  have m0 : w.heap.size < w3.heap.size := by omega
  have m1 : w.heap.size + 1 < w3.heap.size := by omega
  have m2 : w1.heap.size < w3.heap.size := by omega
  go_wp2_with fail
  refine (answer_any 9 x _ (.int .u64 r0) (.int .u64 r1) (.int .u64 r2) (.int .u64 r3) (.int .u64 r4) (.int .u64 r5) (.int .u64 r6) (.int .u64 r7) (.int .u64 pc) _ (al_new _ _ (by simp))).mono ?_
  rintro e w4 ⟨rfl, hk4, hb4⟩
  have hs4 := hk4.size
  simp at hs4
  have i2 := hk4.kp (al (al g2)) (by simp; omega)
  clear c0 c1 c2 g0 g1 f0 f1 e0 e1
  have c2 := cell_of_ob i2
  have k2 := free_of_ob i2
  have c4 := cell_of_ob hb4
  have n2 : w1.heap.size ≠ w3.heap.size + 1 := by omega
  go_wp2
  go_ret
  exact ⟨rfl, by repeat (first | exact Keep.refl _ _ | refine Keep.drew ?_ | refine Keep.drewN ?_ _ | refine Keep.setCell ?_ (by first | (left; simp; done) | (right; simp; done) | (right; omega) | (right; simp; omega)) _ _ | refine Keep.setBlock ?_ (by first | (left; simp; done) | (right; simp; done) | (right; omega) | (right; simp; omega)) _ | refine Keep.alloc ?_ _ | refine Keep.andThen ?_ (by assumption) (by first | (simp; done) | (simp; omega) | (intro x hx; simp at hx; simp; omega)))⟩
set_option maxRecDepth 100000 in
set_option maxHeartbeats 800000 in
theorem back_yes (k wi ad ma r0 r1 r2 r3 r4 r5 r6 r7 pc x : Int) (hyes : rightB k wi ad ma = true) (w : World) :
    Calls Try.prog 8 #[.agg #[.int .i64 k, .int .i64 wi, .int .i64 ad, .int .i64 ma], .agg #[.int .u64 r0, .int .u64 r1, .int .u64 r2, .int .u64 r3, .int .u64 r4, .int .u64 r5, .int .u64 r6, .int .u64 r7, .int .u64 pc], .int .u64 x] w fun o w' =>
      o = .returned (.bool true) ∧ Keep [] w w' := by
  have hof := of_put k wi ad ma hyes r0 r4 r5 r6 r7 pc
  have Hof := Lib.hid hof; clear hof
  go_enter Try.func8, Try.ntmps8
  go_wp2_with fail
  refine (awake_any _).mono ?_
  rintro e w1 ⟨rfl, hk⟩
  have hs := hk.size
  simp at hs
  have e0 := hk.kp (al (al_new w _ rfl)) (by simp)
  have e1 := hk.kp (al_new _ _ (k := w.heap.size + 1) (by simp)) (by simp)
  have c0 := cell_of_ob e0
  have c1 := cell_of_ob e1
  have l0 : w.heap.size < w1.heap.size := by omega
  have l1 : w.heap.size + 1 < w1.heap.size := by omega
  go_wp2_with fail
  refine (put_yes k wi ad ma hyes _ (.int .u64 r0) (.int .u64 r1) (.int .u64 r2) (.int .u64 r3) (.int .u64 r4) (.int .u64 r5) (.int .u64 r6) (.int .u64 r7) (.int .u64 pc) _ (al_new _ _ rfl)).mono ?_
  rintro e w2 ⟨rfl, hk2, f2⟩
  rw [(wraps hyes).1, (wraps hyes).2.1, (wraps hyes).2.2] at f2
  have hs2 := hk2.size
  simp at hs2
  have f0 := hk2.kp (al e0) (by simp; omega)
  have f1 := hk2.kp (al e1) (by simp; omega)
  clear c0 c1
  have c0 := cell_of_ob f0
  have c1 := cell_of_ob f1
  have c2 := cell_of_ob f2
  go_wp2_with fail
  refine (Hof.out _).mono ?_
  rintro e w3 ⟨rfl, hk3⟩
  have hs3 := hk3.size
  have g0 := hk3.kp f0 (by simp)
  have g1 := hk3.kp f1 (by simp)
  have g2 := hk3.kp f2 (by simp)
  clear c0 c1 c2
  have c0 := cell_of_ob g0
  have c1 := cell_of_ob g1
  have c2 := cell_of_ob g2
  have m0 : w.heap.size < w3.heap.size := by omega
  have m1 : w.heap.size + 1 < w3.heap.size := by omega
  have m2 : w1.heap.size < w3.heap.size := by omega
  go_wp2_with fail
  refine (answer_any 9 x _ (.int .u64 r0) (.int .u64 wi) (.int .u64 ad) (.int .u64 ma) (.int .u64 r4) (.int .u64 r5) (.int .u64 r6) (.int .u64 r7) (.int .u64 pc) _ (al_new _ _ (by simp))).mono ?_
  rintro e w4 ⟨rfl, hk4, hb4⟩
  have hs4 := hk4.size
  simp at hs4
  have i2 := hk4.kp (al (al g2)) (by simp; omega)
  clear c0 c1 c2 g0 g1 f0 f1 e0 e1
  have c2 := cell_of_ob i2
  have k2 := free_of_ob i2
  have c4 := cell_of_ob hb4
  have n2 : w1.heap.size ≠ w3.heap.size + 1 := by omega
  go_wp2
  go_ret
  exact ⟨rfl, by repeat (first | exact Keep.refl _ _ | refine Keep.drew ?_ | refine Keep.drewN ?_ _ | refine Keep.setCell ?_ (by first | (left; simp; done) | (right; simp; done) | (right; omega) | (right; simp; omega)) _ _ | refine Keep.setBlock ?_ (by first | (left; simp; done) | (right; simp; done) | (right; omega) | (right; simp; omega)) _ | refine Keep.alloc ?_ _ | refine Keep.andThen ?_ (by assumption) (by first | (simp; done) | (simp; omega) | (intro x hx; simp at hx; simp; omega)))⟩

theorem back_any (k wi ad ma r0 r1 r2 r3 r4 r5 r6 r7 pc x : Int) (h1 : 0 ≤ r1) (h2 : 0 ≤ r2) (h3 : 0 ≤ r3) (w : World) :
    Calls Try.prog 8 #[.agg #[.int .i64 k, .int .i64 wi, .int .i64 ad, .int .i64 ma], .agg #[.int .u64 r0, .int .u64 r1, .int .u64 r2, .int .u64 r3, .int .u64 r4, .int .u64 r5, .int .u64 r6, .int .u64 r7, .int .u64 pc], .int .u64 x] w fun o w' =>
      o = .returned (.bool true) ∧ Keep [] w w' := by
  cases h : rightB k wi ad ma with
  | true => exact back_yes k wi ad ma r0 r1 r2 r3 r4 r5 r6 r7 pc x h w
  | false => exact back_no k wi ad ma r0 r1 r2 r3 r4 r5 r6 r7 pc x h h1 h2 h3 w
end Go.Proofs.Ytfljhfggjbkomaa
