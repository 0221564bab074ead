import Derived.Test.YtfljhfggjbkomaaCb
namespace Go.Proofs.Ytfljhfggjbkomaa
open Go.RowKit
attribute [local go_sem] ob_alloc ob_drew ob_drewN ob_setCell ob_setBlock objSet_cells obMap_map obClock_map isMapI_map keyI_mk findI_nil findI_cons lookRes_some lookRes_none lookRes_some' lookRes_none' setBlock_alloc mapPut

set_option maxRecDepth 100000 in
set_option maxHeartbeats 400000 in
theorem part_1 (b : Nat) (r0 r1 r2 r3 r4 r5 r6 r7 pc : Int) (h1 : 0 ≤ r1) (w : World) (h : ob w b = some (.cells #[.int .u64 r0, .int .u64 r1, .int .u64 r2, .int .u64 r3, .int .u64 r4, .int .u64 r5, .int .u64 r6, .int .u64 r7, .int .u64 pc] 69 (0, 0))) :
    Calls Try.prog 67 #[.int .i64 1, .pointer (some ⟨b, 0, none⟩)] w fun o w' => o = .returned (.int .i64 (min r1 65536)) ∧ w = w' := by
  have c1 := cell_of_ob h
  go_enter Try.func67, Try.ntmps67
  go_wp2
  all_goals
    go_ret
    exact ⟨congrArg (fun z => Ending.returned (.int .i64 z)) (by omega), rfl⟩

set_option maxRecDepth 100000 in
set_option maxHeartbeats 400000 in
theorem part_2 (b : Nat) (r0 r1 r2 r3 r4 r5 r6 r7 pc : Int) (h1 : 0 ≤ r2) (w : World) (h : ob w b = some (.cells #[.int .u64 r0, .int .u64 r1, .int .u64 r2, .int .u64 r3, .int .u64 r4, .int .u64 r5, .int .u64 r6, .int .u64 r7, .int .u64 pc] 69 (0, 0))) :
    Calls Try.prog 67 #[.int .i64 2, .pointer (some ⟨b, 0, none⟩)] w fun o w' => o = .returned (.int .i64 (min r2 65536)) ∧ w = w' := by
  have c1 := cell_of_ob h
  go_enter Try.func67, Try.ntmps67
  go_wp2
  all_goals
    go_ret
    exact ⟨congrArg (fun z => Ending.returned (.int .i64 z)) (by omega), rfl⟩

set_option maxRecDepth 100000 in
set_option maxHeartbeats 400000 in
theorem part_3 (b : Nat) (r0 r1 r2 r3 r4 r5 r6 r7 pc : Int) (h1 : 0 ≤ r3) (w : World) (h : ob w b = some (.cells #[.int .u64 r0, .int .u64 r1, .int .u64 r2, .int .u64 r3, .int .u64 r4, .int .u64 r5, .int .u64 r6, .int .u64 r7, .int .u64 pc] 69 (0, 0))) :
    Calls Try.prog 67 #[.int .i64 3, .pointer (some ⟨b, 0, none⟩)] w fun o w' => o = .returned (.int .i64 (min r3 65536)) ∧ w = w' := by
  have c1 := cell_of_ob h
  go_enter Try.func67, Try.ntmps67
  go_wp2
  all_goals
    go_ret
    exact ⟨congrArg (fun z => Ending.returned (.int .i64 z)) (by omega), rfl⟩

set_option maxRecDepth 100000 in
set_option maxHeartbeats 400000 in
theorem of_12_true (n : Int) (hn : n = 1 ∨ n = 2) (r0 r1 r2 r3 r4 r5 r6 r7 pc : Int) (h1 : 0 ≤ r1) (h2 : 0 ≤ r2) (h3 : 0 ≤ r3) (hb : rightB n (min r1 65536) (min r2 65536) (min r3 65536) = true) (w : World) :
    Calls Try.prog 42 #[.int .i64 n, .agg #[.int .u64 r0, .int .u64 r1, .int .u64 r2, .int .u64 r3, .int .u64 r4, .int .u64 r5, .int .u64 r6, .int .u64 r7, .int .u64 pc]] w fun o w' =>
      o = .returned (.tuple #[.agg #[.int .i64 n, .int .i64 (min r1 65536), .int .i64 (min r2 65536), .int .i64 (min r3 65536)], .int .i64 0]) ∧ Keep [] w w' := by
  have hlook := look124
  have hf : findI n [⟨.int .i64 0, .bool false, 0⟩, ⟨.int .i64 1, .bool true, 1⟩, ⟨.int .i64 2, .bool true, 2⟩, ⟨.int .i64 3, .bool false, 3⟩] 0 = some (n.toNat, .bool true) := by
    rcases hn with rfl | rfl <;> rfl
  go_enter Try.func42, Try.ntmps42
  go_wp2_with (first | (go_at_call 66; refine (kinds_any _).mono ?_; rintro e w' ⟨rfl, rfl⟩) | (go_at_call_of 67 (Value.int IntKind.i64 1); refine (part_1 _ r0 r1 r2 r3 r4 r5 r6 r7 pc h1 _ (by simp [ob_alloc, ob_drew, ob_setCell, ob_setBlock, objSet_cells, Nat.add_assoc])).mono ?_; rintro e w' ⟨rfl, rfl⟩) | (go_at_call_of 67 (Value.int IntKind.i64 2); refine (part_2 _ r0 r1 r2 r3 r4 r5 r6 r7 pc h2 _ (by simp [ob_alloc, ob_drew, ob_setCell, ob_setBlock, objSet_cells, Nat.add_assoc])).mono ?_; rintro e w' ⟨rfl, rfl⟩) | (go_at_call_of 67 (Value.int IntKind.i64 3); refine (part_3 _ r0 r1 r2 r3 r4 r5 r6 r7 pc h3 _ (by simp [ob_alloc, ob_drew, ob_setCell, ob_setBlock, objSet_cells, Nat.add_assoc])).mono ?_; rintro e w' ⟨rfl, rfl⟩))
  refine (right_any _ _ _ _ _).mono ?_
  rintro e w1 ⟨rfl, hk⟩
  have hs := hk.size
  simp at hs
  have e1 : ob w1 (w.heap.size + 1) = some (.cells #[.int .i64 0, .int .i64 0, .int .i64 0, .int .i64 0] 71 (0, 0)) := (hk.block _ (by simp <;> omega) (by simp)).trans (by simp [ob_alloc, ob_drew, ob_setCell, ob_setBlock, objSet_cells, Nat.add_assoc])
  have e2 : ob w1 (w.heap.size + 1 + 1) = some (.cells #[.int .i64 n, .int .i64 (min r1 65536), .int .i64 (min r2 65536), .int .i64 (min r3 65536)] 71 (0, 0)) := (hk.block _ (by simp <;> omega) (by simp)).trans (by simp [ob_alloc, ob_drew, ob_setCell, ob_setBlock, objSet_cells, Nat.add_assoc])
  have c1 := cell_of_ob e1
  have f1 := free_of_ob e1
  have c2 := cell_of_ob e2
  go_wp2
  refine bodyPost_ret (ret_row_tmp (P := Try.prog) Try.results42 (cs := #[.int .i64 n, .int .i64 (min r1 65536), .int .i64 (min r2 65536), .int .i64 (min r3 65536)]) (t := 71) (fr := (0, 0)) (g := w.heap.size + 1) (by simp [ob_alloc, ob_drew, ob_setCell, ob_setBlock, objSet_cells, Nat.add_assoc]; rw [e1]; simp [objSet_cells]) rfl Try.underlying71 rfl (by kernel_rfl)) rfl ⟨rfl, ?_⟩
  repeat (first | exact Keep.refl _ _ | refine Keep.drew ?_ | refine Keep.drewN ?_ _ | refine Keep.setCell ?_ (by first | (left; simp; done) | (right; simp; done) | (right; omega) | (right; simp; omega)) _ _ | refine Keep.setBlock ?_ (by first | (left; simp; done) | (right; simp; done) | (right; omega) | (right; simp; omega)) _ | refine Keep.alloc ?_ _ | refine Keep.andThen ?_ (by assumption) (by first | (simp; done) | (simp; omega) | (intro x hx; simp at hx; simp; omega)))

set_option maxRecDepth 100000 in
set_option maxHeartbeats 400000 in
theorem of_12_false (n : Int) (hn : n = 1 ∨ n = 2) (r0 r1 r2 r3 r4 r5 r6 r7 pc : Int) (h1 : 0 ≤ r1) (h2 : 0 ≤ r2) (h3 : 0 ≤ r3) (hb : rightB n (min r1 65536) (min r2 65536) (min r3 65536) = false) (w : World) :
    Calls Try.prog 42 #[.int .i64 n, .agg #[.int .u64 r0, .int .u64 r1, .int .u64 r2, .int .u64 r3, .int .u64 r4, .int .u64 r5, .int .u64 r6, .int .u64 r7, .int .u64 pc]] w fun o w' =>
      o = .returned (.tuple #[.agg #[.int .i64 0, .int .i64 0, .int .i64 0, .int .i64 0], .int .i64 1]) ∧ Keep [] w w' := by
  have hlook := look124
  have hf : findI n [⟨.int .i64 0, .bool false, 0⟩, ⟨.int .i64 1, .bool true, 1⟩, ⟨.int .i64 2, .bool true, 2⟩, ⟨.int .i64 3, .bool false, 3⟩] 0 = some (n.toNat, .bool true) := by
    rcases hn with rfl | rfl <;> rfl
  go_enter Try.func42, Try.ntmps42
  go_wp2_with (first | (go_at_call 66; refine (kinds_any _).mono ?_; rintro e w' ⟨rfl, rfl⟩) | (go_at_call_of 67 (Value.int IntKind.i64 1); refine (part_1 _ r0 r1 r2 r3 r4 r5 r6 r7 pc h1 _ (by simp [ob_alloc, ob_drew, ob_setCell, ob_setBlock, objSet_cells, Nat.add_assoc])).mono ?_; rintro e w' ⟨rfl, rfl⟩) | (go_at_call_of 67 (Value.int IntKind.i64 2); refine (part_2 _ r0 r1 r2 r3 r4 r5 r6 r7 pc h2 _ (by simp [ob_alloc, ob_drew, ob_setCell, ob_setBlock, objSet_cells, Nat.add_assoc])).mono ?_; rintro e w' ⟨rfl, rfl⟩) | (go_at_call_of 67 (Value.int IntKind.i64 3); refine (part_3 _ r0 r1 r2 r3 r4 r5 r6 r7 pc h3 _ (by simp [ob_alloc, ob_drew, ob_setCell, ob_setBlock, objSet_cells, Nat.add_assoc])).mono ?_; rintro e w' ⟨rfl, rfl⟩))
  refine (right_any _ _ _ _ _).mono ?_
  rintro e w1 ⟨rfl, hk⟩
  have hs := hk.size
  simp at hs
  have e1 : ob w1 (w.heap.size + 1) = some (.cells #[.int .i64 0, .int .i64 0, .int .i64 0, .int .i64 0] 71 (0, 0)) := (hk.block _ (by simp <;> omega) (by simp)).trans (by simp [ob_alloc, ob_drew, ob_setCell, ob_setBlock, objSet_cells, Nat.add_assoc])
  have e2 : ob w1 (w.heap.size + 1 + 1) = some (.cells #[.int .i64 n, .int .i64 (min r1 65536), .int .i64 (min r2 65536), .int .i64 (min r3 65536)] 71 (0, 0)) := (hk.block _ (by simp <;> omega) (by simp)).trans (by simp [ob_alloc, ob_drew, ob_setCell, ob_setBlock, objSet_cells, Nat.add_assoc])
  have c1 := cell_of_ob e1
  have f1 := free_of_ob e1
  have c2 := cell_of_ob e2
  go_wp2
  refine bodyPost_ret (ret_row_tmp (P := Try.prog) Try.results42 (cs := #[.int .i64 0, .int .i64 0, .int .i64 0, .int .i64 0]) (t := 71) (fr := (0, 0)) (g := w.heap.size + 1) (by simp [ob_alloc, ob_drew, ob_setCell, ob_setBlock, objSet_cells, Nat.add_assoc]; rw [e1]; simp [objSet_cells]) rfl Try.underlying71 rfl (by kernel_rfl)) rfl ⟨rfl, ?_⟩
  repeat (first | exact Keep.refl _ _ | refine Keep.drew ?_ | refine Keep.drewN ?_ _ | refine Keep.setCell ?_ (by first | (left; simp; done) | (right; simp; done) | (right; omega) | (right; simp; omega)) _ _ | refine Keep.setBlock ?_ (by first | (left; simp; done) | (right; simp; done) | (right; omega) | (right; simp; omega)) _ | refine Keep.alloc ?_ _ | refine Keep.andThen ?_ (by assumption) (by first | (simp; done) | (simp; omega) | (intro x hx; simp at hx; simp; omega)))
end Go.Proofs.Ytfljhfggjbkomaa
