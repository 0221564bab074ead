import Derived.Test.YtjiienoflgolpaaMh
namespace Go.Proofs.Ytjiienoflgolpaa
open Go.RowKit
set_option linter.unusedSimpArgs false
set_option linter.unusedVariables false
attribute [local go_sem] ob_alloc ob_drew ob_drewN ob_setCell ob_setBlock objSet_cells obMap_map obClock_map isMapI_map keyI_mk findI_nil findI_cons lookRes_some lookRes_none lookRes_some' lookRes_none' setBlock_alloc mapPut

set_option maxRecDepth 100000 in
set_option maxHeartbeats 2000000 in
theorem awake02 (w : World) : Calls Try.prog 23 #[] w fun o w' => o = .returned (.bool true) ∧ Keep [] w w' := by
  go_enter Try.func23, Try.ntmps23
  go_wp2_with fail
  refine (mNew_ok 2 (by omega) (by omega) w).mono ?_
  rintro _ w1 ⟨rfl, hM1, hk1, hs1⟩
  obtain ⟨g, hg⟩ : ∃ g, g = w.heap.size := ⟨_, rfl⟩
  have hgw : w.heap.size ≤ g := by omega
  rw [← hg] at hM1 ⊢
  clear hg hs1
  go_wp2_with fail
  refine (mWrite w1 (g + 1) g 2 _ hM1 17 5).mono ?_
  rintro _ w2 ⟨rfl, hM2, hk2⟩
  rw [show eR (okA 2 17) = 0 by decide]
  go_wp2_with fail
  refine (mRead w2 (g + 1) g 2 _ hM2 17).mono ?_
  rintro _ w3 ⟨rfl, rfl⟩
  rw [show eR (okA 2 17) = 0 by decide, show readR 2 (writeS 2 (fun _ => 0) 17 5) 17 = 5 by decide]
  go_wp2_with fail
  refine (mZero w2 (g + 1) g 2 _ hM2 1).mono ?_
  rintro _ w3 ⟨rfl, rfl⟩
  rw [show zeroB 2 (writeS 2 (fun _ => 0) 17 5) 1 = false by decide]
  go_wp2_with fail
  refine (mScrub w2 (g + 1) g 2 _ hM2 1 1).mono ?_
  rintro _ w3 ⟨rfl, hM3, hk3⟩
  rw [show eR (hasB 2 1 1) = 0 by decide]
  go_wp2_with fail
  refine (mZero w3 (g + 1) g 2 _ hM3 1).mono ?_
  rintro _ w4 ⟨rfl, rfl⟩
  rw [show zeroB 2 (scrubS 2 (writeS 2 (fun _ => 0) 17 5) 1 1) 1 = true by decide]
  go_wp2_with fail
  refine (mFrames w3 (g + 1) g 2 _ hM3).mono ?_
  rintro _ w4 ⟨rfl, rfl⟩
  have hk : Keep [] w w3 := (hk1.andThen hk2 (by simp; omega)).andThen hk3 (by simp; omega)
  clear hM1 hM2 hM3
  go_wp2
  go_ret
  exact ⟨rfl, hk⟩

theorem eR_t {b : Bool} (h : b = true) : eR b = 0 := by rw [h]; rfl
theorem eR_f {b : Bool} (h : b = false) : eR b = 1 := by rw [h]; rfl
theorem okA_div {n k : Nat} (h : k < n * 16) : hasB n ((k / 16 : Nat) : Int) 1 = true := by unfold hasB; simp; omega

/-- a new variable of sixteen words, written -/
theorem put80 (w1 : World) (F : Nat → Int) : ∃ w2 w3, w2 = w1.alloc (.cells #[.int .u64 0, .int .u64 0, .int .u64 0, .int .u64 0, .int .u64 0, .int .u64 0, .int .u64 0, .int .u64 0, .int .u64 0, .int .u64 0, .int .u64 0, .int .u64 0, .int .u64 0, .int .u64 0, .int .u64 0, .int .u64 0] 80) ∧ w2.there w1.heap.size 0 (blk (vU F) 16).size ∧ w3 = w2.setCells w1.heap.size 0 (blk (vU F) 16).toList ∧ ob w3 w1.heap.size = some (.cells (blk (vU F) 16) 80 (0, 0)) ∧ Keep [] w1 w3 ∧ w1.heap.size < w3.heap.size := by
  have hZ : ob (w1.alloc (.cells #[.int .u64 0, .int .u64 0, .int .u64 0, .int .u64 0, .int .u64 0, .int .u64 0, .int .u64 0, .int .u64 0, .int .u64 0, .int .u64 0, .int .u64 0, .int .u64 0, .int .u64 0, .int .u64 0, .int .u64 0, .int .u64 0] 80)) w1.heap.size = some (.cells (blk (vU fun _ => 0) 16) 80 (0, 0)) := al_new _ _ rfl
  have h3 := store_all w1.heap.size _ _ F hZ
  exact ⟨_, _, rfl, blk_there hZ (by simp [blk]), rfl, h3, ((Keep.refl _ _).alloc _).setCells (.inr (Nat.le_refl _)) _ _, ob_lt h3⟩
theorem cells16 {w : World} {b : Nat} {F : Nat → Int} (h : ob w b = some (.cells (blk (vU F) 16) 80 (0, 0))) : ∀ i, i < 16 → w.cell? ⟨b, i, none⟩ = some (.int .u64 (F i)) := fun i hi => blk_cell h hi
end Go.Proofs.Ytjiienoflgolpaa
