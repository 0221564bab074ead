import Derived.Test.YtfljhfggjbkomaaCd
namespace Go.Proofs.Ytfljhfggjbkomaa
open Go.RowKit
attribute [local go_sem] ob_alloc ob_drew ob_drewN ob_setCell ob_setBlock objSet_cells obMap_map obClock_map isMapI_map keyI_mk findI_nil findI_cons lookRes_some lookRes_none lookRes_some' lookRes_none' setBlock_alloc mapPut

theorem min_id {r m : Int} (h : r ≤ m) : min r m = r := by omega

theorem of_yes (n : Int) (hn : n = 1 ∨ n = 2) (r0 r1 r2 r3 r4 r5 r6 r7 pc : Int) (h1 : 0 ≤ r1) (h1' : r1 ≤ 15) (h2 : 0 ≤ r2) (h2' : r2 ≤ 65535) (h3 : 1 ≤ r3) (h3' : r3 ≤ 4) (w : World) :
    Calls Try.prog 42 #[.int .i64 n, .agg #[.int .u64 r0, .int .u64 r1, .int .u64 r2, .int .u64 r3, .int .u64 r4, .int .u64 r5, .int .u64 r6, .int .u64 r7, .int .u64 pc]] w fun o w' =>
      o = .returned (.tuple #[.agg #[.int .i64 n, .int .i64 r1, .int .i64 r2, .int .i64 r3], .int .i64 0]) ∧ Keep [] w w' := by
  have h := of_12_true n hn r0 r1 r2 r3 r4 r5 r6 r7 pc h1 h2 (by omega) (by rw [rightB_iff]; omega) w
  rw [min_id (by omega), min_id (by omega), min_id (by omega)] at h
  exact h

/-- the two Of's answer alike -/
theorem of_both (n r0 r1 r2 r3 r4 r5 r6 r7 pc : Int) (h1 : 0 ≤ r1) (h2 : 0 ≤ r2) (h3 : 0 ≤ r3) : ∃ a b c d e : Int,
    (∀ w, Calls Try.prog 42 #[.int .i64 n, .agg #[.int .u64 r0, .int .u64 r1, .int .u64 r2, .int .u64 r3, .int .u64 r4, .int .u64 r5, .int .u64 r6, .int .u64 r7, .int .u64 pc]] w fun o w' => o = .returned (.tuple #[.agg #[.int .i64 a, .int .i64 b, .int .i64 c, .int .i64 d], .int .i64 e]) ∧ Keep [] w w') ∧
    (∀ w, Calls Try.prog 43 #[.int .i64 n, .agg #[.int .u64 r0, .int .u64 r1, .int .u64 r2, .int .u64 r3, .int .u64 r4, .int .u64 r5, .int .u64 r6, .int .u64 r7, .int .u64 pc]] w fun o w' => o = .returned (.tuple #[.agg #[.int .i64 a, .int .i64 b, .int .i64 c, .int .i64 d], .int .i64 e]) ∧ Keep [] w w') := by
  by_cases hn : n = 1 ∨ n = 2
  · by_cases hr : r1 ≤ 15 ∧ r2 ≤ 65535 ∧ 1 ≤ r3 ∧ r3 ≤ 4
    · obtain ⟨a, b, c, d⟩ := hr
      exact ⟨n, r1, r2, r3, 0, of_yes n hn r0 r1 r2 r3 r4 r5 r6 r7 pc h1 a h2 b c d, refOf_12_true n r0 r1 r2 r3 r4 r5 r6 r7 pc hn h1 a h2 b c d⟩
    · exact ⟨0, 0, 0, 0, 1, of_12_false n hn r0 r1 r2 r3 r4 r5 r6 r7 pc h1 h2 h3 (by rw [rightB_false_iff]; omega), refOf_12_false n r0 r1 r2 r3 r4 r5 r6 r7 pc hn h1 h2 h3 hr⟩
  · by_cases hz : n = 0 ∨ n = 3
    · exact ⟨n, 0, 0, 0, 0, of_03 n hz r0 r1 r2 r3 r4 r5 r6 r7 pc, refOf_03 n r0 r1 r2 r3 r4 r5 r6 r7 pc hz⟩
    · exact ⟨0, 0, 0, 0, 1, of_oth n (by omega) (by omega) (by omega) (by omega) r0 r1 r2 r3 r4 r5 r6 r7 pc, refOf_oth n r0 r1 r2 r3 r4 r5 r6 r7 pc (by omega) (by omega) (by omega) (by omega)⟩

set_option maxRecDepth 100000 in
set_option maxHeartbeats 400000 in
theorem awake_any (w : World) : Calls Try.prog 41 #[] w fun o w' => o = .returned (.bool true) ∧ Keep [] w w' := by
  go_enter Try.func41, Try.ntmps41
  go_wp2_with fail
  refine (of_yes 1 (.inl rfl) 0 3 100 2 0 0 0 0 0 (by omega) (by omega) (by omega) (by omega) (by omega) (by omega) _).mono ?_
  rintro e w1 ⟨rfl, hk⟩
  go_wp2_with fail
  refine (answer_any 8 7 _ (.int .u64 0) (.int .u64 0) (.int .u64 0) (.int .u64 0) (.int .u64 0) (.int .u64 0) (.int .u64 0) (.int .u64 0) (.int .u64 0) _ (by simp [ob_alloc, ob_drew, ob_setCell, ob_setBlock, objSet_cells, Nat.add_assoc])).mono ?_
  rintro e w2 ⟨rfl, hk2, hb⟩
  have hs := hk.size
  have hs2 := hk2.size
  simp at hs2
  have e1 := hk2.block w1.heap.size (by simp; omega) (by simp)
  simp [ob_alloc] at e1
  have c1 := cell_of_ob e1
  have c2 := cell_of_ob hb
  go_wp2
  go_ret
  exact ⟨rfl, by repeat (first | exact Keep.refl _ _ | refine Keep.drew ?_ | refine Keep.drewN ?_ _ | refine Keep.setCell ?_ (by first | (left; simp; done) | (right; simp; done) | (right; omega) | (right; simp; omega)) _ _ | refine Keep.setBlock ?_ (by first | (left; simp; done) | (right; simp; done) | (right; omega) | (right; simp; omega)) _ | refine Keep.alloc ?_ _ | refine Keep.andThen ?_ (by assumption) (by first | (simp; done) | (simp; omega) | (intro x hx; simp at hx; simp; omega)))⟩

end Go.Proofs.Ytfljhfggjbkomaa
