import Derived.Test.YtfljhfggjbkomaaSc
namespace Go.Proofs.Ytfljhfggjbkomaa
open Go.RowKit
set_option linter.unusedSimpArgs false
set_option linter.unusedVariables false
attribute [local go_sem] ob_alloc ob_drew ob_drewN ob_setCell ob_setBlock objSet_cells obMap_map obClock_map isMapI_map keyI_mk findI_nil findI_cons lookRes_some lookRes_none lookRes_some' lookRes_none' setBlock_alloc mapPut

/-! ### awake -/
set_option maxRecDepth 100000 in
set_option maxHeartbeats 800000 in
theorem awake17 (w : World) : Calls Try.prog 32 #[] w fun o w' => o = .returned (.bool true) ∧ Keep [] w w' := by
  go_enter Try.func32, Try.ntmps32
  go_wp2_with fail
  refine (new_ok 2 5 (by decide) w [w.heap.size + 1]).mono ?_
  rintro _ w1 ⟨rfl, hP1, hk1, hs1⟩
  have hR : Rd (w1.alloc (.cells #[.int .u64 7] 65)) (.slice (some ⟨w1.heap.size, 0, none⟩) 1 1) (u64s [7]) :=
    Rd.row (al_new w1 (.cells #[.int .u64 7] 65) rfl) rfl (Nat.le_refl _) (by unfold maxLen; omega) rfl
  rw [hs1] at hR
  have hP1' : PortAt (w1.alloc (.cells #[.int .u64 7] 65)) (w.heap.size + 1) [w.heap.size + 1] 2 5 none := hP1.keep (S := []) ((Keep.refl _ _).alloc _) (by simp) (by simp)
  have hw := write_ok_none _ (w.heap.size + 1) [w.heap.size + 1] 2 5 (by simp) (by simp; omega) hP1' _ [7] hR 10 (by omega) (by decide) (by decide) (by omega)
  go_wp2_with fail
  refine hw.mono ?_
  rintro _ w2 ⟨rfl, hP2, hk2⟩
  have hk02 : Keep [w.heap.size + 1] w1 w2 := ((Keep.refl _ _).alloc _).andThen hk2 (by simp)
  have hs2 := hk02.size
  have hr := read_ok w2 (w.heap.size + 1) [w.heap.size + 1] 2 5 14 [7] 10 hP2 (by omega) (by omega)
  go_wp2_with fail
  refine hr.mono ?_
  rintro _ w3 ⟨rfl, hb3, hk3⟩
  have hP3 := hP2.keep hk3 (by simp) (by simp)
  have hr := read_ok w3 (w.heap.size + 1) [w.heap.size + 1] 2 5 15 [7] 10 hP3 (by omega) (by omega)
  go_wp2_with fail
  refine hr.mono ?_
  rintro _ w4 ⟨rfl, _, hk4⟩
  have hb4 := hk4.kp hb3 (by simp)
  have c4 := cell_of_ob hb4
  simp [u64s] at c4
  have l4 := ob_lt hb4
  have hk : Keep [] w w4 := (((Keep.refl _ _).andThen hk1 (by simp)).andThen hk02 (by simp)).andThen (hk3.trans hk4) (by simp)
  clear hP1 hP1' hP2 hP3 hr hw hR hb3 hb4
  go_wp2
  go_ret
  exact ⟨rfl, hk⟩
end Go.Proofs.Ytfljhfggjbkomaa
