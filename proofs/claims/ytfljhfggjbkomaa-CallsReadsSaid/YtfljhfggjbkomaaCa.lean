import Derived.Test.YtfljhfggjbkomaaRows
import Derived.Test.YtfljhfggjbkomaaLib
namespace Go.Proofs.Ytfljhfggjbkomaa
open Go.RowKit
attribute [local go_sem] ob_alloc ob_drew ob_drewN ob_setCell ob_setBlock objSet_cells obMap_map obClock_map isMapI_map keyI_mk findI_nil findI_cons lookRes_some lookRes_none lookRes_some' lookRes_none' setBlock_alloc mapPut

theorem zero4 (w : World) : (zeroValue 4).run Try.prog w = .ok (.bool false) w := by kernel_rfl
theorem put124 (x : Int) (v : Value) (w : World) (r : Nat) (hb : isMapI .i64 (ob w r) = true) : (Instr.mapUpdate 124 (.map (some r)) (.int .i64 x) v).run Try.prog w = .ok () (ChangeMaps.setBlock w r (mapPut .i64 x v (obMap (ob w r)) (obClock (ob w r)))) :=
  run_mapUpdate_ob Try.underlying124 Try.underlying3 x v w r hb
theorem look124 (x : Int) (ok : Bool) (w : World) (r : Nat) (hb : isMapI .i64 (ob w r) = true) : (Instr.lookup 124 (.map (some r)) (.int .i64 x) ok).run Try.prog w = .ok (lookRes ok (.bool false) (findI x (obMap (ob w r)).toList 0)) w :=
  run_lookup_ob Try.underlying124 Try.underlying3 zero4 x ok w r hb

set_option maxHeartbeats 400000 in
set_option maxRecDepth 100000 in
theorem kinds_any (w : World) :
    Calls Try.prog 66 #[] w fun e w' => e = .returned (.map (some w.heap.size)) ∧ w.alloc (.map #[⟨.int .i64 0, .bool false, 0⟩, ⟨.int .i64 1, .bool true, 1⟩, ⟨.int .i64 2, .bool true, 2⟩, ⟨.int .i64 3, .bool false, 3⟩] 4) = w' := by
  have hmm := @run_makeMap Try.prog
  have hput := put124
  go_enter Try.func66, Try.ntmps66
  go_wp2
  go_ret
  exact ⟨rfl, rfl⟩



def inB (n a b : Int) : Bool := decide (a ≤ n ∧ n ≤ b)

theorem within_any (n a b : Int) (w : World) :
    Calls Try.prog 71 #[.int .i64 n, .int .i64 a, .int .i64 b] w fun e w' => e = .returned (.bool (inB n a b)) ∧ w = w' := by
  by_cases h : a ≤ n
  · by_cases h2 : n ≤ b
    · go_enter Try.func71, Try.ntmps71
      go_wp2
      go_ret
      exact ⟨by simp [inB, h, h2], rfl⟩
    · go_enter Try.func71, Try.ntmps71
      go_wp2
      go_ret
      exact ⟨by simp [inB, h, h2], rfl⟩
  · go_enter Try.func71, Try.ntmps71
    go_wp2
    go_ret
    exact ⟨by simp [inB]; omega, rfl⟩

/-- may such a call be? -/
def rightB (k wi ad ma : Int) : Bool :=
  if k = 0 ∨ k = 3 then decide (wi = 0 ∧ ad = 0 ∧ ma = 0)
  else if k = 1 ∨ k = 2 then inB wi 0 15 && (inB ad 0 65535 && inB ma 1 4) else false

set_option maxRecDepth 100000 in
set_option maxHeartbeats 400000 in
theorem right_0 (wi ad ma : Int) (w : World) :
    Calls Try.prog 68 #[.agg #[.int .i64 0, .int .i64 wi, .int .i64 ad, .int .i64 ma]] w fun e w' => e = .returned (.bool (rightB 0 wi ad ma)) ∧ Keep [] w w' := by
  have hlook := look124
  go_enter Try.func68, Try.ntmps68
  go_wp2
  go_region_with (go_at_call 66; refine (kinds_any _).mono ?_; rintro e w' ⟨rfl, rfl⟩)
  all_goals go_wp2_with (go_at_call 71; refine (within_any _ _ _ _).mono ?_; rintro e w' ⟨rfl, rfl⟩)
  all_goals
    go_ret
    exact ⟨by simp [rightB, *], ((Keep.refl _ _).alloc _).drew.alloc _⟩

set_option maxRecDepth 100000 in
set_option maxHeartbeats 400000 in
theorem right_3 (wi ad ma : Int) (w : World) :
    Calls Try.prog 68 #[.agg #[.int .i64 3, .int .i64 wi, .int .i64 ad, .int .i64 ma]] w fun e w' => e = .returned (.bool (rightB 3 wi ad ma)) ∧ Keep [] w w' := by
  have hlook := look124
  go_enter Try.func68, Try.ntmps68
  go_wp2
  go_region_with (go_at_call 66; refine (kinds_any _).mono ?_; rintro e w' ⟨rfl, rfl⟩)
  all_goals go_wp2_with (go_at_call 71; refine (within_any _ _ _ _).mono ?_; rintro e w' ⟨rfl, rfl⟩)
  all_goals
    go_ret
    exact ⟨by simp [rightB, *], ((Keep.refl _ _).alloc _).drew.alloc _⟩

set_option maxRecDepth 100000 in
set_option maxHeartbeats 400000 in
theorem right_1 (wi ad ma : Int) (w : World) :
    Calls Try.prog 68 #[.agg #[.int .i64 1, .int .i64 wi, .int .i64 ad, .int .i64 ma]] w fun e w' => e = .returned (.bool (rightB 1 wi ad ma)) ∧ Keep [] w w' := by
  have hlook := look124
  go_enter Try.func68, Try.ntmps68
  go_wp2
  go_region_with (go_at_call 66; refine (kinds_any _).mono ?_; rintro e w' ⟨rfl, rfl⟩)
  all_goals go_wp2_with (go_at_call 71; refine (within_any _ _ _ _).mono ?_; rintro e w' ⟨rfl, rfl⟩)
  all_goals
    go_ret
    exact ⟨by simp [rightB, *], ((Keep.refl _ _).alloc _).drew.alloc _⟩

set_option maxRecDepth 100000 in
set_option maxHeartbeats 400000 in
theorem right_2 (wi ad ma : Int) (w : World) :
    Calls Try.prog 68 #[.agg #[.int .i64 2, .int .i64 wi, .int .i64 ad, .int .i64 ma]] w fun e w' => e = .returned (.bool (rightB 2 wi ad ma)) ∧ Keep [] w w' := by
  have hlook := look124
  go_enter Try.func68, Try.ntmps68
  go_wp2
  go_region_with (go_at_call 66; refine (kinds_any _).mono ?_; rintro e w' ⟨rfl, rfl⟩)
  all_goals go_wp2_with (go_at_call 71; refine (within_any _ _ _ _).mono ?_; rintro e w' ⟨rfl, rfl⟩)
  all_goals
    go_ret
    exact ⟨by simp [rightB, *], ((Keep.refl _ _).alloc _).drew.alloc _⟩

set_option maxRecDepth 100000 in
set_option maxHeartbeats 400000 in
theorem right_no (k wi ad ma : Int) (w : World) (h0 : k ≠ 0) (h1 : k ≠ 1) (h2 : k ≠ 2) (h3 : k ≠ 3) :
    Calls Try.prog 68 #[.agg #[.int .i64 k, .int .i64 wi, .int .i64 ad, .int .i64 ma]] w fun e w' => e = .returned (.bool (rightB k wi ad ma)) ∧ Keep [] w w' := by
  have hlook := look124
  go_enter Try.func68, Try.ntmps68
  go_wp2
  go_region_with (go_at_call 66; refine (kinds_any _).mono ?_; rintro e w' ⟨rfl, rfl⟩)
  all_goals go_wp2
  all_goals
    go_ret
    exact ⟨by simp [rightB, *], ((Keep.refl _ _).alloc _).drew.alloc _⟩

theorem right_any (k wi ad ma : Int) (w : World) :
    Calls Try.prog 68 #[.agg #[.int .i64 k, .int .i64 wi, .int .i64 ad, .int .i64 ma]] w fun e w' => e = .returned (.bool (rightB k wi ad ma)) ∧ Keep [] w w' := by
  by_cases h0 : k = 0
  · subst h0; exact right_0 wi ad ma w
  by_cases h1 : k = 1
  · subst h1; exact right_1 wi ad ma w
  by_cases h2 : k = 2
  · subst h2; exact right_2 wi ad ma w
  by_cases h3 : k = 3
  · subst h3; exact right_3 wi ad ma w
  exact right_no k wi ad ma w h0 h1 h2 h3
end Go.Proofs.Ytfljhfggjbkomaa
