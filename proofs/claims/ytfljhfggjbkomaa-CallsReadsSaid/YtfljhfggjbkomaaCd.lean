import Derived.Test.YtfljhfggjbkomaaCc
namespace Go.Proofs.Ytfljhfggjbkomaa
open Go.RowKit
attribute [local go_sem] ob_alloc ob_drew ob_drewN ob_setCell ob_setBlock objSet_cells obMap_map obClock_map isMapI_map keyI_mk findI_nil findI_cons lookRes_some lookRes_none lookRes_some' lookRes_none' setBlock_alloc mapPut

set_option maxRecDepth 100000 in
set_option maxHeartbeats 400000 in
theorem of_03 (n : Int) (hn : n = 0 ∨ n = 3) (r0 r1 r2 r3 r4 r5 r6 r7 pc : Int) (w : World) :
    Calls Try.prog 42 #[.int .i64 n, .agg #[.int .u64 r0, .int .u64 r1, .int .u64 r2, .int .u64 r3, .int .u64 r4, .int .u64 r5, .int .u64 r6, .int .u64 r7, .int .u64 pc]] w fun o w' =>
      o = .returned (.tuple #[.agg #[.int .i64 n, .int .i64 0, .int .i64 0, .int .i64 0], .int .i64 0]) ∧ Keep [] w w' := by
  have hlook := look124
  have hb : rightB n 0 0 0 = true := by rcases hn with rfl | rfl <;> rfl
  have hf : findI n [⟨.int .i64 0, .bool false, 0⟩, ⟨.int .i64 1, .bool true, 1⟩, ⟨.int .i64 2, .bool true, 2⟩, ⟨.int .i64 3, .bool false, 3⟩] 0 = some (n.toNat, .bool false) := by rcases hn with rfl | rfl <;> rfl
  go_enter Try.func42, Try.ntmps42
  go_wp2_with (first | (go_at_call 66; refine (kinds_any _).mono ?_; rintro e w' ⟨rfl, rfl⟩))
  refine (right_any _ _ _ _ _).mono ?_
  rintro e w1 ⟨rfl, hk⟩
  have hs := hk.size
  simp at hs
  have e1 : ob w1 (w.heap.size + 1) = some (.cells #[.int .i64 0, .int .i64 0, .int .i64 0, .int .i64 0] 71 (0, 0)) := (hk.block _ (by simp <;> omega) (by simp)).trans (by simp [ob_alloc, ob_drew, ob_setCell, ob_setBlock, objSet_cells, Nat.add_assoc])
  have e2 : ob w1 (w.heap.size + 1 + 1) = some (.cells #[.int .i64 n, .int .i64 0, .int .i64 0, .int .i64 0] 71 (0, 0)) := (hk.block _ (by simp <;> omega) (by simp)).trans (by simp [ob_alloc, ob_drew, ob_setCell, ob_setBlock, objSet_cells, Nat.add_assoc])
  have c1 := cell_of_ob e1
  have f1 := free_of_ob e1
  have c2 := cell_of_ob e2
  go_wp2
  refine bodyPost_ret (ret_row_tmp (P := Try.prog) Try.results42 (cs := #[.int .i64 n, .int .i64 0, .int .i64 0, .int .i64 0]) (t := 71) (fr := (0, 0)) (g := w.heap.size + 1) (by simp [ob_alloc, ob_drew, ob_setCell, ob_setBlock, objSet_cells, Nat.add_assoc]; rw [e1]; simp [objSet_cells]) rfl Try.underlying71 rfl (by kernel_rfl)) rfl ⟨rfl, ?_⟩
  repeat (first | exact Keep.refl _ _ | refine Keep.drew ?_ | refine Keep.drewN ?_ _ | refine Keep.setCell ?_ (by first | (left; simp; done) | (right; simp; done) | (right; omega) | (right; simp; omega)) _ _ | refine Keep.setBlock ?_ (by first | (left; simp; done) | (right; simp; done) | (right; omega) | (right; simp; omega)) _ | refine Keep.alloc ?_ _ | refine Keep.andThen ?_ (by assumption) (by first | (simp; done) | (simp; omega) | (intro x hx; simp at hx; simp; omega)))

set_option maxRecDepth 100000 in
set_option maxHeartbeats 400000 in
theorem of_oth (n : Int) (h0 : n ≠ 0) (h1 : n ≠ 1) (h2 : n ≠ 2) (h3 : n ≠ 3) (r0 r1 r2 r3 r4 r5 r6 r7 pc : Int) (w : World) :
    Calls Try.prog 42 #[.int .i64 n, .agg #[.int .u64 r0, .int .u64 r1, .int .u64 r2, .int .u64 r3, .int .u64 r4, .int .u64 r5, .int .u64 r6, .int .u64 r7, .int .u64 pc]] w fun o w' =>
      o = .returned (.tuple #[.agg #[.int .i64 0, .int .i64 0, .int .i64 0, .int .i64 0], .int .i64 1]) ∧ Keep [] w w' := by
  have hlook := look124
  have hb : rightB n 0 0 0 = false := by simp [rightB, h0, h1, h2, h3]
  have hf : findI n [⟨.int .i64 0, .bool false, 0⟩, ⟨.int .i64 1, .bool true, 1⟩, ⟨.int .i64 2, .bool true, 2⟩, ⟨.int .i64 3, .bool false, 3⟩] 0 = none := by simp [findI_cons, findI_nil, h0, h1, h2, h3]
  go_enter Try.func42, Try.ntmps42
  go_wp2_with (first | (go_at_call 66; refine (kinds_any _).mono ?_; rintro e w' ⟨rfl, rfl⟩))
  refine (right_any _ _ _ _ _).mono ?_
  rintro e w1 ⟨rfl, hk⟩
  have hs := hk.size
  simp at hs
  have e1 : ob w1 (w.heap.size + 1) = some (.cells #[.int .i64 0, .int .i64 0, .int .i64 0, .int .i64 0] 71 (0, 0)) := (hk.block _ (by simp <;> omega) (by simp)).trans (by simp [ob_alloc, ob_drew, ob_setCell, ob_setBlock, objSet_cells, Nat.add_assoc])
  have e2 : ob w1 (w.heap.size + 1 + 1) = some (.cells #[.int .i64 n, .int .i64 0, .int .i64 0, .int .i64 0] 71 (0, 0)) := (hk.block _ (by simp <;> omega) (by simp)).trans (by simp [ob_alloc, ob_drew, ob_setCell, ob_setBlock, objSet_cells, Nat.add_assoc])
  have c1 := cell_of_ob e1
  have f1 := free_of_ob e1
  have c2 := cell_of_ob e2
  go_wp2
  refine bodyPost_ret (ret_row_tmp (P := Try.prog) Try.results42 (cs := #[.int .i64 0, .int .i64 0, .int .i64 0, .int .i64 0]) (t := 71) (fr := (0, 0)) (g := w.heap.size + 1) (by simp [ob_alloc, ob_drew, ob_setCell, ob_setBlock, objSet_cells, Nat.add_assoc]; rw [e1]; simp [objSet_cells]) rfl Try.underlying71 rfl (by kernel_rfl)) rfl ⟨rfl, ?_⟩
  repeat (first | exact Keep.refl _ _ | refine Keep.drew ?_ | refine Keep.drewN ?_ _ | refine Keep.setCell ?_ (by first | (left; simp; done) | (right; simp; done) | (right; omega) | (right; simp; omega)) _ _ | refine Keep.setBlock ?_ (by first | (left; simp; done) | (right; simp; done) | (right; omega) | (right; simp; omega)) _ | refine Keep.alloc ?_ _ | refine Keep.andThen ?_ (by assumption) (by first | (simp; done) | (simp; omega) | (intro x hx; simp at hx; simp; omega)))

theorem rightB_false_iff (k wi ad ma : Int) : rightB k wi ad ma = false ↔ ¬ (((k = 0 ∨ k = 3) ∧ wi = 0 ∧ ad = 0 ∧ ma = 0) ∨ ((k = 1 ∨ k = 2) ∧ 0 ≤ wi ∧ wi ≤ 15 ∧ 0 ≤ ad ∧ ad ≤ 65535 ∧ 1 ≤ ma ∧ ma ≤ 4)) := by
  rw [← rightB_iff]; simp
theorem refRight_f (k wi ad ma : Int) (h : rightB k wi ad ma = false) (w : World) :
    Calls Try.prog 45 #[.agg #[.int .i64 k, .int .i64 wi, .int .i64 ad, .int .i64 ma]] w fun e w' => e = .returned (.bool false) ∧ Keep [] w w' := by
  rw [← h]; exact refRight_any k wi ad ma w
theorem refRight_t (k wi ad ma : Int) (h : rightB k wi ad ma = true) (w : World) :
    Calls Try.prog 45 #[.agg #[.int .i64 k, .int .i64 wi, .int .i64 ad, .int .i64 ma]] w fun e w' => e = .returned (.bool true) ∧ Keep [] w w' := by
  rw [← h]; exact refRight_any k wi ad ma w

set_option maxRecDepth 100000 in
set_option maxHeartbeats 800000 in
theorem refOf_12_true (n : Int) (r0 r1 r2 r3 r4 r5 r6 r7 pc : Int) (hn : n = 1 ∨ n = 2) (h1 : 0 ≤ r1) (h1' : r1 ≤ 15) (h2 : 0 ≤ r2) (h2' : r2 ≤ 65535) (h3 : 1 ≤ r3) (h3' : r3 ≤ 4) (w : World) :
    Calls Try.prog 43 #[.int .i64 n, .agg #[.int .u64 r0, .int .u64 r1, .int .u64 r2, .int .u64 r3, .int .u64 r4, .int .u64 r5, .int .u64 r6, .int .u64 r7, .int .u64 pc]] w fun o w' =>
      o = .returned (.tuple #[.agg #[.int .i64 n, .int .i64 r1, .int .i64 r2, .int .i64 r3], .int .i64 0]) ∧ Keep [] w w' := by
  rcases hn with rfl | rfl
  all_goals
    go_enter Try.func43, Try.ntmps43
    go_wp2_with fail
  all_goals
    refine (refRight_t _ _ _ _ (by rw [rightB_iff]; omega) _).mono ?_
    rintro e w1 ⟨rfl, hk⟩
    have hs := hk.size
    simp at hs
    have e1 := hk.block (w.heap.size + 1) (by simp <;> omega) (by simp)
    have e2 := hk.block (w.heap.size + 1 + 1) (by simp <;> omega) (by simp)
    simp [ob_alloc, ob_setCell, objSet_cells, Nat.add_assoc] at e1
    simp only [ob_alloc, ob_setCell, objSet_cells, World.size_alloc, if_true] at e2
    have c1 := cell_of_ob e1
    have f1 := free_of_ob e1
    have c2 := cell_of_ob e2
    go_wp2
    refine bodyPost_ret (ret_row_tmp (P := Try.prog) Try.results43 (t := 74) (fr := (0, 0)) (g := w.heap.size + 1) (by simp [ob_alloc, ob_drew, ob_setCell, ob_setBlock, objSet_cells, Nat.add_assoc]; rw [e1]; simp [objSet_cells]; rfl) rfl Try.underlying74 rfl (by kernel_rfl)) rfl ⟨?_, ?_⟩
    · rfl
    · repeat (first | exact Keep.refl _ _ | refine Keep.drew ?_ | refine Keep.drewN ?_ _ | refine Keep.setCell ?_ (by first | (left; simp; done) | (right; simp; done) | (right; omega) | (right; simp; omega)) _ _ | refine Keep.setBlock ?_ (by first | (left; simp; done) | (right; simp; done) | (right; omega) | (right; simp; omega)) _ | refine Keep.alloc ?_ _ | refine Keep.andThen ?_ (by assumption) (by first | (simp; done) | (simp; omega) | (intro x hx; simp at hx; simp; omega)))

set_option maxRecDepth 100000 in
set_option maxHeartbeats 4000000 in
theorem refOf_12_false (n : Int) (r0 r1 r2 r3 r4 r5 r6 r7 pc : Int) (hn : n = 1 ∨ n = 2) (h1 : 0 ≤ r1) (h2 : 0 ≤ r2) (h3 : 0 ≤ r3) (hb : ¬ (r1 ≤ 15 ∧ r2 ≤ 65535 ∧ 1 ≤ r3 ∧ r3 ≤ 4)) (w : World) :
    Calls Try.prog 43 #[.int .i64 n, .agg #[.int .u64 r0, .int .u64 r1, .int .u64 r2, .int .u64 r3, .int .u64 r4, .int .u64 r5, .int .u64 r6, .int .u64 r7, .int .u64 pc]] w fun o w' =>
      o = .returned (.tuple #[.agg #[.int .i64 0, .int .i64 0, .int .i64 0, .int .i64 0], .int .i64 1]) ∧ Keep [] w w' := by
  rcases hn with rfl | rfl
  all_goals
    go_enter Try.func43, Try.ntmps43
    go_wp2_with fail
  all_goals
    refine (refRight_f _ _ _ _ (by rw [rightB_false_iff]; omega) _).mono ?_
    rintro e w1 ⟨rfl, hk⟩
    have hs := hk.size
    simp at hs
    have e1 := hk.block (w.heap.size + 1) (by simp <;> omega) (by simp)
    have e2 := hk.block (w.heap.size + 1 + 1) (by simp <;> omega) (by simp)
    simp [ob_alloc, ob_setCell, objSet_cells, Nat.add_assoc] at e1
    simp only [ob_alloc, ob_setCell, objSet_cells, World.size_alloc, if_true] at e2
    have c1 := cell_of_ob e1
    have f1 := free_of_ob e1
    have c2 := cell_of_ob e2
    go_wp2
    refine bodyPost_ret (ret_row_tmp (P := Try.prog) Try.results43 (t := 74) (fr := (0, 0)) (g := w.heap.size + 1) (by simp [ob_alloc, ob_drew, ob_setCell, ob_setBlock, objSet_cells, Nat.add_assoc]; rw [e1]; simp [objSet_cells]; rfl) rfl Try.underlying74 rfl (by kernel_rfl)) rfl ⟨?_, ?_⟩
    · rfl
    · repeat (first | exact Keep.refl _ _ | refine Keep.drew ?_ | refine Keep.drewN ?_ _ | refine Keep.setCell ?_ (by first | (left; simp; done) | (right; simp; done) | (right; omega) | (right; simp; omega)) _ _ | refine Keep.setBlock ?_ (by first | (left; simp; done) | (right; simp; done) | (right; omega) | (right; simp; omega)) _ | refine Keep.alloc ?_ _ | refine Keep.andThen ?_ (by assumption) (by first | (simp; done) | (simp; omega) | (intro x hx; simp at hx; simp; omega)))

set_option maxRecDepth 100000 in
set_option maxHeartbeats 800000 in
theorem refOf_03 (n : Int) (r0 r1 r2 r3 r4 r5 r6 r7 pc : Int) (hn : n = 0 ∨ n = 3) (w : World) :
    Calls Try.prog 43 #[.int .i64 n, .agg #[.int .u64 r0, .int .u64 r1, .int .u64 r2, .int .u64 r3, .int .u64 r4, .int .u64 r5, .int .u64 r6, .int .u64 r7, .int .u64 pc]] w fun o w' =>
      o = .returned (.tuple #[.agg #[.int .i64 n, .int .i64 0, .int .i64 0, .int .i64 0], .int .i64 0]) ∧ Keep [] w w' := by
  rcases hn with rfl | rfl
  all_goals
    go_enter Try.func43, Try.ntmps43
    go_wp2_with fail
  all_goals
    refine (refRight_t _ _ _ _ (by rw [rightB_iff]; omega) _).mono ?_
    rintro e w1 ⟨rfl, hk⟩
    have hs := hk.size
    simp at hs
    have e1 := hk.block (w.heap.size + 1) (by simp <;> omega) (by simp)
    have e2 := hk.block (w.heap.size + 1 + 1) (by simp <;> omega) (by simp)
    simp [ob_alloc, ob_setCell, objSet_cells, Nat.add_assoc] at e1
    simp only [ob_alloc, ob_setCell, objSet_cells, World.size_alloc, if_true] at e2
    have c1 := cell_of_ob e1
    have f1 := free_of_ob e1
    have c2 := cell_of_ob e2
    go_wp2
    refine bodyPost_ret (ret_row_tmp (P := Try.prog) Try.results43 (t := 74) (fr := (0, 0)) (g := w.heap.size + 1) (by simp [ob_alloc, ob_drew, ob_setCell, ob_setBlock, objSet_cells, Nat.add_assoc]; rw [e1]; simp [objSet_cells]; rfl) rfl Try.underlying74 rfl (by kernel_rfl)) rfl ⟨?_, ?_⟩
    · rfl
    · repeat (first | exact Keep.refl _ _ | refine Keep.drew ?_ | refine Keep.drewN ?_ _ | refine Keep.setCell ?_ (by first | (left; simp; done) | (right; simp; done) | (right; omega) | (right; simp; omega)) _ _ | refine Keep.setBlock ?_ (by first | (left; simp; done) | (right; simp; done) | (right; omega) | (right; simp; omega)) _ | refine Keep.alloc ?_ _ | refine Keep.andThen ?_ (by assumption) (by first | (simp; done) | (simp; omega) | (intro x hx; simp at hx; simp; omega)))

set_option maxRecDepth 100000 in
set_option maxHeartbeats 800000 in
theorem refOf_oth (n : Int) (r0 r1 r2 r3 r4 r5 r6 r7 pc : Int) (h0 : n ≠ 0) (h1 : n ≠ 1) (h2 : n ≠ 2) (h3 : n ≠ 3) (w : World) :
    Calls Try.prog 43 #[.int .i64 n, .agg #[.int .u64 r0, .int .u64 r1, .int .u64 r2, .int .u64 r3, .int .u64 r4, .int .u64 r5, .int .u64 r6, .int .u64 r7, .int .u64 pc]] w fun o w' =>
      o = .returned (.tuple #[.agg #[.int .i64 0, .int .i64 0, .int .i64 0, .int .i64 0], .int .i64 1]) ∧ Keep [] w w' := by
  go_enter Try.func43, Try.ntmps43
  go_wp2_with fail
  all_goals
    refine (refRight_f _ _ _ _ (by rw [rightB_false_iff]; omega) _).mono ?_
    rintro e w1 ⟨rfl, hk⟩
    have hs := hk.size
    simp at hs
    have e1 := hk.block (w.heap.size + 1) (by simp <;> omega) (by simp)
    have e2 := hk.block (w.heap.size + 1 + 1) (by simp <;> omega) (by simp)
    simp [ob_alloc, ob_setCell, objSet_cells, Nat.add_assoc] at e1
    simp only [ob_alloc, ob_setCell, objSet_cells, World.size_alloc, if_true] at e2
    have c1 := cell_of_ob e1
    have f1 := free_of_ob e1
    have c2 := cell_of_ob e2
    go_wp2
    refine bodyPost_ret (ret_row_tmp (P := Try.prog) Try.results43 (t := 74) (fr := (0, 0)) (g := w.heap.size + 1) (by simp [ob_alloc, ob_drew, ob_setCell, ob_setBlock, objSet_cells, Nat.add_assoc]; rw [e1]; simp [objSet_cells]; rfl) rfl Try.underlying74 rfl (by kernel_rfl)) rfl ⟨?_, ?_⟩
    · rfl
    · repeat (first | exact Keep.refl _ _ | refine Keep.drew ?_ | refine Keep.drewN ?_ _ | refine Keep.setCell ?_ (by first | (left; simp; done) | (right; simp; done) | (right; omega) | (right; simp; omega)) _ _ | refine Keep.setBlock ?_ (by first | (left; simp; done) | (right; simp; done) | (right; omega) | (right; simp; omega)) _ | refine Keep.alloc ?_ _ | refine Keep.andThen ?_ (by assumption) (by first | (simp; done) | (simp; omega) | (intro x hx; simp at hx; simp; omega)))
end Go.Proofs.Ytfljhfggjbkomaa
