import Derived.Test.YtpkpdfljhpieaaaBd
namespace Go.Proofs.Ytpkpdfljhpieaaa
open Go.RowKit
set_option linter.unusedSimpArgs false
set_option linter.unusedVariables false
attribute [local go_sem] ob_alloc ob_drew ob_drewN ob_setCell ob_setBlock objSet_cells obMap_map obClock_map isMapI_map keyI_mk findI_nil findI_cons lookRes_some lookRes_none lookRes_some' lookRes_none' setBlock_alloc mapPut

theorem aw_get (w : World) : Calls Try.prog 14 #[.int .u64 43981, .int .i64 4, .int .i64 8] w fun e w' => e = .returned (.tuple #[.int .u64 188, .bool true]) ∧ w = w' := by
  have h := get_yes 43981 (by decide) 4 8 (by decide) w
  have e : getN 43981 (Int.toNat 4) (Int.toNat 8) = 188 := by decide +kernel
  rw [e] at h
  exact h
theorem aw_put (w : World) : Calls Try.prog 16 #[.int .u64 0, .int .u64 5, .int .i64 4, .int .i64 3] w fun e w' => e = .returned (.tuple #[.int .u64 80, .bool true]) ∧ Keep [] w w' := by
  have h := put_yes 0 5 (by decide) 4 3 (by decide) (by decide) w
  have e : putN 0 5 (Int.toNat 4) (Int.toNat 3) = 80 := by decide +kernel
  rw [e] at h
  exact h
theorem aw_log (w : World) : Calls Try.prog 18 #[.int .i64 5] w fun e w' => e = .returned (.int .i64 3) ∧ w = w' := by
  have h := log_any 5 (by omega) (by omega) w
  have e : LG 5 = 3 := by decide +kernel
  rw [e] at h
  exact h

set_option maxRecDepth 100000 in
set_option maxHeartbeats 400000 in
theorem awake_any (w : World) : Calls Try.prog 13 #[] w fun o w' => o = .returned (.bool true) ∧ Keep [] w w' := by
  go_enter Try.func13, Try.ntmps13
  go_wp2_with (first | (go_at_call 14; refine (aw_get _).mono ?_; rintro e w' ⟨rfl, rfl⟩) | (go_at_call 16; refine (aw_put _).mono ?_; rintro e w1 ⟨rfl, hk⟩) | (go_at_call 18; refine (aw_log _).mono ?_; rintro e w' ⟨rfl, rfl⟩))
  go_ret
  exact ⟨rfl, hk⟩

/-! ### BitsNumbers -/
set_option maxRecDepth 100000 in
set_option maxHeartbeats 400000 in
theorem numbers_any (n o : Int) (x : Nat) (hx : x < 2 ^ 64) (h1 : -9223372036854775808 ≤ n) (h2 : n ≤ 9223372036854775807) (w : World) :
    Calls Try.prog 8 #[.int .i64 n, .int .i64 o, .int .u64 x] w fun e w' => e = .returned (.bool true) ∧ Keep [] w w' := by
  by_cases h : n < 0 ∨ o < 0 ∨ 30 < o
  · go_enter Try.func8, Try.ntmps8
    go_wp2_with (first | (go_at_call 13; refine (awake_any _).mono ?_; rintro e w1 ⟨rfl, hk⟩) | (go_at_call 18; refine (log_any _ h1 h2 _).mono ?_; rintro e w' ⟨rfl, rfl⟩) | (go_at_call 21; refine (refLog_any _ h1 h2 _).mono ?_; rintro e w' ⟨rfl, rfl⟩) | (go_at_call 19; refine (align_no _ _ h _).mono ?_; rintro e w' ⟨rfl, rfl⟩) | (go_at_call 22; refine (refAlign_no _ _ h _).mono ?_; rintro e w' ⟨rfl, rfl⟩) | (go_at_call 20; refine (count_any _ hx _).mono ?_; rintro e w' ⟨rfl, rfl⟩) | (go_at_call 23; refine (refCount_any _ hx _).mono ?_; rintro e w' ⟨rfl, rfl⟩))
    go_ret
    exact ⟨rfl, hk⟩
  · have a1 : 0 ≤ n := by omega
    have a2 : 0 ≤ o := by omega
    have a3 : o ≤ 30 := by omega
    clear h
    go_enter Try.func8, Try.ntmps8
    go_wp2_with (first | (go_at_call 13; refine (awake_any _).mono ?_; rintro e w1 ⟨rfl, hk⟩) | (go_at_call 18; refine (log_any _ h1 h2 _).mono ?_; rintro e w' ⟨rfl, rfl⟩) | (go_at_call 21; refine (refLog_any _ h1 h2 _).mono ?_; rintro e w' ⟨rfl, rfl⟩) | (go_at_call 19; refine (align_yes _ _ a1 h2 a2 a3 _).mono ?_; rintro e w' ⟨rfl, rfl⟩) | (go_at_call 22; refine (refAlign_yes _ _ a1 h2 a2 a3 _).mono ?_; rintro e w2 ⟨rfl, hk2⟩) | (go_at_call 20; refine (count_any _ hx _).mono ?_; rintro e w' ⟨rfl, rfl⟩) | (go_at_call 23; refine (refCount_any _ hx _).mono ?_; rintro e w' ⟨rfl, rfl⟩))
    go_ret
    exact ⟨rfl, hk.andThen hk2 (by simp)⟩
end Go.Proofs.Ytpkpdfljhpieaaa
