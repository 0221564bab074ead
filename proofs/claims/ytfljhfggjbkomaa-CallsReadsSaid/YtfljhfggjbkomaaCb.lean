import Derived.Test.YtfljhfggjbkomaaRows
import Derived.Test.YtfljhfggjbkomaaCa
import Derived.ChangeAlike
import Derived.BigRegion
namespace Go.Proofs.Ytfljhfggjbkomaa
open Go.RowKit
attribute [local go_sem] ob_alloc ob_drew ob_drewN ob_setCell ob_setBlock objSet_cells obMap_map obClock_map isMapI_map keyI_mk findI_nil findI_cons lookRes_some lookRes_none lookRes_some' lookRes_none' setBlock_alloc mapPut

theorem rightB_iff (k wi ad ma : Int) : rightB k wi ad ma = true ↔ ((k = 0 ∨ k = 3) ∧ wi = 0 ∧ ad = 0 ∧ ma = 0) ∨ ((k = 1 ∨ k = 2) ∧ 0 ≤ wi ∧ wi ≤ 15 ∧ 0 ≤ ad ∧ ad ≤ 65535 ∧ 1 ≤ ma ∧ ma ≤ 4) := by
  unfold rightB inB
  split
  · simp; omega
  · split
    · simp; omega
    · simp; omega
theorem ret_bool {a b : Bool} (h : a = b) : Ending.returned (.bool a) = Ending.returned (.bool b) := by rw [h]
set_option maxRecDepth 100000 in
set_option maxHeartbeats 400000 in
theorem refRight_any (k wi ad ma : Int) (w : World) :
    Calls Try.prog 45 #[.agg #[.int .i64 k, .int .i64 wi, .int .i64 ad, .int .i64 ma]] w fun e w' => e = .returned (.bool (rightB k wi ad ma)) ∧ Keep [] w w' := by
  go_enter Try.func45, Try.ntmps45
  go_wp2
  all_goals
    go_ret
    refine ⟨ret_bool ?_, (Keep.refl _ _).alloc _⟩
    rw [Bool.eq_iff_iff, rightB_iff]
    try simp only [beq_iff_eq, beq_eq_false_iff_ne, ne_eq] at *
    try simp
    omega

theorem answer_any (e x : Int) (rb : Nat) (r0 r1 r2 r3 r4 r5 r6 r7 pc : Value) (w : World) (h : ob w rb = some (.cells #[r0, r1, r2, r3, r4, r5, r6, r7, pc] 69 (0, 0))) :
    Calls Try.prog 46 #[.pointer (some ⟨rb, 0, none⟩), .int .i64 e, .int .u64 x] w fun o w' => o = .returned (.tuple #[]) ∧ Keep [rb] w w' ∧ ob w' rb = some (.cells #[.int .u64 (IntKind.u64.wrap e), .int .u64 x, r2, r3, r4, r5, r6, r7, pc] 69 (0, 0)) := by
  have c0 := cell_of_ob h
  have f0 := free_of_ob h
  go_enter Try.func46, Try.ntmps46
  go_wp2
  go_region
  all_goals go_wp2
  all_goals
    go_end0
    exact ⟨rfl, (((Keep.refl _ _).setCell (.inl (by simp)) _ _).setCell (.inl (by simp)) _ _).drew, by simp [ob_drew, ob_setCell, h, objSet_cells]⟩

set_option maxRecDepth 100000 in
set_option maxHeartbeats 400000 in
theorem put_no (k wi ad ma : Int) (hno : rightB k wi ad ma = false) (p : Value) (w : World) :
    Calls Try.prog 44 #[.agg #[.int .i64 k, .int .i64 wi, .int .i64 ad, .int .i64 ma], p] w fun o w' => o = .returned (.tuple #[.int .i64 0, .int .i64 1]) ∧ Keep [] w w' := by
  go_enter Try.func44, Try.ntmps44
  go_wp2_with (go_at_call 68; refine (right_any _ _ _ _ _).mono ?_; rintro e w' ⟨rfl, hk⟩)
  go_ret2
  exact ⟨rfl, ((Keep.refl _ _).alloc _).trans hk⟩

set_option maxRecDepth 100000 in
set_option maxHeartbeats 400000 in
theorem put_yes (k wi ad ma : Int) (hyes : rightB k wi ad ma = true) (rb : Nat) (r0 r1 r2 r3 r4 r5 r6 r7 pc : Value) (w : World) (h : ob w rb = some (.cells #[r0, r1, r2, r3, r4, r5, r6, r7, pc] 69 (0, 0))) :
    Calls Try.prog 44 #[.agg #[.int .i64 k, .int .i64 wi, .int .i64 ad, .int .i64 ma], .pointer (some ⟨rb, 0, none⟩)] w fun o w' => o = .returned (.tuple #[.int .i64 k, .int .i64 0]) ∧ Keep [rb] w w' ∧
      ob w' rb = some (.cells #[r0, .int .u64 (IntKind.u64.wrap wi), .int .u64 (IntKind.u64.wrap ad), .int .u64 (IntKind.u64.wrap ma), r4, r5, r6, r7, pc] 69 (0, 0)) := by
  go_enter Try.func44, Try.ntmps44
  go_wp2_with fail
  have hlt := ob_lt h
  refine (right_any _ _ _ _ _).mono ?_
  rintro e w1 ⟨rfl, hk⟩
  have hs := hk.size
  have hr := (hk.block rb (by simp; omega) (by simp)).trans ((ob_alloc _ _ _).trans ((if_neg (by omega)).trans h))
  have hb := (hk.block w.heap.size (by simp) (by simp)).trans ((ob_alloc _ _ _).trans (if_pos rfl))
  have c0 := cell_of_ob hr
  have f0 := free_of_ob hr
  have c1 := cell_of_ob hb
  simp at hs
  go_wp2
  go_region
  all_goals go_wp2
  all_goals
    go_ret2
    exact ⟨rfl, by repeat (first | exact Keep.refl _ _ | refine Keep.drew ?_ | refine Keep.drewN ?_ _ | refine Keep.setCell ?_ (by first | (left; simp; done) | (right; simp; done) | (right; omega) | (right; simp; omega)) _ _ | refine Keep.setBlock ?_ (by first | (left; simp; done) | (right; simp; done) | (right; omega) | (right; simp; omega)) _ | refine Keep.alloc ?_ _ | refine Keep.andThen ?_ (by assumption) (by first | (simp; done) | (simp; omega) | (intro x hx; simp at hx; simp; omega))), by simp [ob_alloc, ob_drew, ob_setCell, ob_setBlock, objSet_cells, Nat.add_assoc, *]⟩
end Go.Proofs.Ytfljhfggjbkomaa
