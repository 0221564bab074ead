import Derived.Test.YtfljhfggjbkomaaCf
namespace Go.Proofs.Ytfljhfggjbkomaa
open Go.RowKit
set_option linter.unusedSimpArgs false
set_option linter.unusedVariables false
attribute [local go_sem] ob_alloc ob_drew ob_drewN ob_setCell ob_setBlock objSet_cells obMap_map obClock_map isMapI_map keyI_mk findI_nil findI_cons lookRes_some lookRes_none lookRes_some' lookRes_none' setBlock_alloc mapPut
attribute [local go_sem ↓] eql69 neq69 eql71 neq71

set_option maxRecDepth 100000 in
set_option maxHeartbeats 800000 in
theorem reads_yes (n r0 r1 r2 r3 r4 r5 r6 r7 pc k wi ad ma : Int) (h1 : 0 ≤ r1) (h2 : 0 ≤ r2) (h3 : 0 ≤ r3) (hr : rightB k wi ad ma = true) (w : World) :
    Calls Try.prog 7 #[.int .i64 n, .agg #[.int .u64 r0, .int .u64 r1, .int .u64 r2, .int .u64 r3, .int .u64 r4, .int .u64 r5, .int .u64 r6, .int .u64 r7, .int .u64 pc], .agg #[.int .i64 k, .int .i64 wi, .int .i64 ad, .int .i64 ma]] w fun o w' =>
      o = .returned (.bool true) ∧ Keep [] w w' := by
  obtain ⟨a, b, c, d, e, hof, hof2⟩ := of_both n r0 r1 r2 r3 r4 r5 r6 r7 pc h1 h2 h3
  have Hof := Lib.hid hof; clear hof
  have Hof2 := Lib.hid hof2; clear hof2
  have HR := Lib.hid hr
  go_enter Try.func7, Try.ntmps7
  go_wp2_with fail
  refine (awake_any _).mono ?_
  rintro _ w1 ⟨rfl, hk⟩
  have hs := hk.size
  simp at hs
  have e0 := hk.kp (al (al_new w _ rfl)) (by simp)
  have e1 := hk.kp (al_new _ _ (k := w.heap.size + 1) (by simp)) (by simp)
  have c0 := cell_of_ob e0
  go_wp2_with fail
  refine (Hof.out _).mono ?_
  rintro _ w2 ⟨rfl, hk2⟩
  have hs2 := hk2.size
  have e0 := hk2.kp e0 (by simp)
  have e1 := hk2.kp e1 (by simp)
  clear c0
  have c0 := cell_of_ob e0
  have l2 : w.heap.size < w2.heap.size := by omega
  go_wp2_with fail
  refine (Hof2.out _).mono ?_
  rintro _ w3 ⟨rfl, hk3⟩
  have hs3 := hk3.size
  simp at hs3
  have e0 := hk3.kp (al e0) (by simp)
  have e1 := hk3.kp (al e1) (by simp)
  have e2 := hk3.kp (al_new _ _ rfl) (by simp)
  clear c0
  have c0 := cell_of_ob e0
  have c1 := cell_of_ob e1
  have c2 := cell_of_ob e2
  have l3 : w.heap.size < w3.heap.size := by omega
  have l4 : w.heap.size + 1 < w3.heap.size := by omega
  have l5 : w2.heap.size < w3.heap.size := by omega
  go_wp2_with fail
  refine (put_yes k wi ad ma hr _ (.int .u64 r0) (.int .u64 r1) (.int .u64 r2) (.int .u64 r3) (.int .u64 r4) (.int .u64 r5) (.int .u64 r6) (.int .u64 r7) (.int .u64 pc) _ (al_new _ _ (by simp))).mono ?_
  rintro _ w4 ⟨rfl, hk4, f2⟩
  have hs4 := hk4.size
  simp at hs4
  have e0 := hk4.kp (al (al e0)) (by simp; omega)
  have e1 := hk4.kp (al (al e1)) (by simp; omega)
  clear c0 c1 c2 e2
  have c0 := cell_of_ob e0
  have c1 := cell_of_ob e1
  go_wp2_with fail
  refine (refRight_any _ _ _ _ _).mono ?_
  rintro _ w5 ⟨rfl, hk5⟩
  have hs5 := hk5.size
  have e0 := hk5.kp e0 (by simp)
  have e1 := hk5.kp e1 (by simp)
  have f2 := hk5.kp f2 (by simp)
  clear c0 c1
  have c0 := cell_of_ob e0
  have c1 := cell_of_ob e1
  have c2 := cell_of_ob f2
  have l6 : w.heap.size < w5.heap.size := by omega
  have l7 : w.heap.size + 1 < w5.heap.size := by omega
  have l8 : w3.heap.size + 1 < w5.heap.size := by omega
  go_wp2
  go_ret
  exact ⟨rfl, by repeat (first | exact Keep.refl _ _ | refine Keep.drew ?_ | refine Keep.drewN ?_ _ | refine Keep.setCell ?_ (by first | (left; simp; done) | (right; simp; done) | (right; omega) | (right; simp; omega)) _ _ | refine Keep.setBlock ?_ (by first | (left; simp; done) | (right; simp; done) | (right; omega) | (right; simp; omega)) _ | refine Keep.alloc ?_ _ | refine Keep.andThen ?_ (by assumption) (by first | (simp; done) | (simp; omega) | (intro x hx; simp at hx; simp; omega)))⟩

set_option maxRecDepth 100000 in
set_option maxHeartbeats 800000 in
theorem reads_no (n r0 r1 r2 r3 r4 r5 r6 r7 pc k wi ad ma : Int) (h1 : 0 ≤ r1) (h2 : 0 ≤ r2) (h3 : 0 ≤ r3) (hr : rightB k wi ad ma = false) (w : World) :
    Calls Try.prog 7 #[.int .i64 n, .agg #[.int .u64 r0, .int .u64 r1, .int .u64 r2, .int .u64 r3, .int .u64 r4, .int .u64 r5, .int .u64 r6, .int .u64 r7, .int .u64 pc], .agg #[.int .i64 k, .int .i64 wi, .int .i64 ad, .int .i64 ma]] w fun o w' =>
      o = .returned (.bool true) ∧ Keep [] w w' := by
  obtain ⟨a, b, c, d, e, hof, hof2⟩ := of_both n r0 r1 r2 r3 r4 r5 r6 r7 pc h1 h2 h3
  have Hof := Lib.hid hof; clear hof
  have Hof2 := Lib.hid hof2; clear hof2
  have HR := Lib.hid hr
  go_enter Try.func7, Try.ntmps7
  go_wp2_with fail
  refine (awake_any _).mono ?_
  rintro _ w1 ⟨rfl, hk⟩
  have hs := hk.size
  simp at hs
  have e0 := hk.kp (al (al_new w _ rfl)) (by simp)
  have e1 := hk.kp (al_new _ _ (k := w.heap.size + 1) (by simp)) (by simp)
  have c0 := cell_of_ob e0
  go_wp2_with fail
  refine (Hof.out _).mono ?_
  rintro _ w2 ⟨rfl, hk2⟩
  have hs2 := hk2.size
  have e0 := hk2.kp e0 (by simp)
  have e1 := hk2.kp e1 (by simp)
  clear c0
  have c0 := cell_of_ob e0
  have l2 : w.heap.size < w2.heap.size := by omega
  go_wp2_with fail
  refine (Hof2.out _).mono ?_
  rintro _ w3 ⟨rfl, hk3⟩
  have hs3 := hk3.size
  simp at hs3
  have e0 := hk3.kp (al e0) (by simp)
  have e1 := hk3.kp (al e1) (by simp)
  have e2 := hk3.kp (al_new _ _ rfl) (by simp)
  clear c0
  have c0 := cell_of_ob e0
  have c1 := cell_of_ob e1
  have c2 := cell_of_ob e2
  have l3 : w.heap.size < w3.heap.size := by omega
  have l4 : w.heap.size + 1 < w3.heap.size := by omega
  have l5 : w2.heap.size < w3.heap.size := by omega
  go_wp2_with fail
  refine (put_no k wi ad ma hr _ _).mono ?_
  rintro _ w4 ⟨rfl, hk4⟩
  have f2 := hk4.kp (al_new _ _ (k := w3.heap.size + 1) (by simp)) (by simp)
  have hs4 := hk4.size
  simp at hs4
  have e0 := hk4.kp (al (al e0)) (by simp)
  have e1 := hk4.kp (al (al e1)) (by simp)
  clear c0 c1 c2 e2
  have c0 := cell_of_ob e0
  have c1 := cell_of_ob e1
  go_wp2_with fail
  refine (refRight_any _ _ _ _ _).mono ?_
  rintro _ w5 ⟨rfl, hk5⟩
  have hs5 := hk5.size
  have e0 := hk5.kp e0 (by simp)
  have e1 := hk5.kp e1 (by simp)
  have f2 := hk5.kp f2 (by simp)
  clear c0 c1
  have c0 := cell_of_ob e0
  have c1 := cell_of_ob e1
  have c2 := cell_of_ob f2
  have l6 : w.heap.size < w5.heap.size := by omega
  have l7 : w.heap.size + 1 < w5.heap.size := by omega
  have l8 : w3.heap.size + 1 < w5.heap.size := by omega
  go_wp2
  go_ret
  exact ⟨rfl, by repeat (first | exact Keep.refl _ _ | refine Keep.drew ?_ | refine Keep.drewN ?_ _ | refine Keep.setCell ?_ (by first | (left; simp; done) | (right; simp; done) | (right; omega) | (right; simp; omega)) _ _ | refine Keep.setBlock ?_ (by first | (left; simp; done) | (right; simp; done) | (right; omega) | (right; simp; omega)) _ | refine Keep.alloc ?_ _ | refine Keep.andThen ?_ (by assumption) (by first | (simp; done) | (simp; omega) | (intro x hx; simp at hx; simp; omega)))⟩
end Go.Proofs.Ytfljhfggjbkomaa
