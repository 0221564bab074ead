import Derived.Test.YtfljhfggjbkomaaSc
namespace Go.Proofs.Ytfljhfggjbkomaa
open Go.RowKit
set_option linter.unusedSimpArgs false
set_option linter.unusedVariables false
attribute [local go_sem] ob_alloc ob_drew ob_drewN ob_setCell ob_setBlock objSet_cells obMap_map obClock_map isMapI_map keyI_mk findI_nil findI_cons lookRes_some lookRes_none lookRes_some' lookRes_none' setBlock_alloc mapPut

set_option maxRecDepth 100000 in
set_option maxHeartbeats 800000 in
theorem refWrite_no (w : World) (p : Nat) (L : List Nat) (W T : Int) (msg : Option (List Int × Int)) (hP : RefAt w p L W T msg) (v : Value) (ws : List Int) (hv : RdU w v ws) (now : Int) (hno : okW ws.length W now msg = false) :
    Calls Try.prog 36 #[.pointer (some ⟨p, 0, none⟩), v, .int .i64 now] w fun o w' => o = .returned (.int .i64 1) ∧ w = w' := by
  obtain ⟨a, cap, rfl, hmax⟩ := hv.len
  unfold maxLen at hmax
  generalize ws.length = n at *
  by_cases h1 : 1 ≤ n
  · cases msg with
    | none =>
      have hP' : ob w p = _ := hP
      have cP := cell_of_ob hP'
      by_cases h2 : (n : Int) ≤ W
      · have h3 : now < 0 := by simp [okW] at hno; omega
        clear hno hP hP' hv
        go_enter Try.func36, Try.ntmps36
        go_wp2
        go_ret
        exact ⟨rfl, rfl⟩
      · clear hno hP hP' hv
        go_enter Try.func36, Try.ntmps36
        go_wp2
        go_ret
        exact ⟨rfl, rfl⟩
    | some mt =>
      obtain ⟨us, t⟩ := mt
      obtain ⟨u, hu, hP', _⟩ := hP
      have cP := cell_of_ob hP'
      by_cases h2 : (n : Int) ≤ W
      · by_cases h3 : now < 0
        · clear hno hP' hv
          go_enter Try.func36, Try.ntmps36
          go_wp2
          go_ret
          exact ⟨rfl, rfl⟩
        · have h4 : now < t := by simp [okW] at hno; omega
          clear hno hP' hv
          go_enter Try.func36, Try.ntmps36
          go_wp2
          go_ret
          exact ⟨rfl, rfl⟩
      · clear hno hP' hv
        go_enter Try.func36, Try.ntmps36
        go_wp2
        go_ret
        exact ⟨rfl, rfl⟩
  · clear hno hP hv
    go_enter Try.func36, Try.ntmps36
    go_wp2
    go_ret
    exact ⟨rfl, rfl⟩

set_option maxRecDepth 100000 in
set_option maxHeartbeats 400000 in
theorem refRead_none (w : World) (p : Nat) (L : List Nat) (W T now : Int) (hP : RefAt w p L W T none) :
    Calls Try.prog 39 #[.pointer (some ⟨p, 0, none⟩), .int .i64 now] w fun o w' => o = .returned (.tuple #[.slice none 0 0, .bool false, .int .i64 2]) ∧ w = w' := by
  have cP := cell_of_ob (show ob w p = _ from hP)
  go_enter Try.func39, Try.ntmps39
  go_wp2
  go_ret3
  exact ⟨rfl, rfl⟩
set_option maxRecDepth 100000 in
set_option maxHeartbeats 400000 in
theorem refRead_early (w : World) (p : Nat) (L : List Nat) (W T now : Int) (us : List Int) (t : Int) (hP : RefAt w p L W T (some (us, t))) (h : now < t) :
    Calls Try.prog 39 #[.pointer (some ⟨p, 0, none⟩), .int .i64 now] w fun o w' => o = .returned (.tuple #[.slice none 0 0, .bool false, .int .i64 1]) ∧ w = w' := by
  obtain ⟨u, hu, hP', _⟩ := hP
  have cP := cell_of_ob hP'
  clear hP'
  go_enter Try.func39, Try.ntmps39
  go_wp2
  go_ret3
  exact ⟨rfl, rfl⟩
end Go.Proofs.Ytfljhfggjbkomaa
