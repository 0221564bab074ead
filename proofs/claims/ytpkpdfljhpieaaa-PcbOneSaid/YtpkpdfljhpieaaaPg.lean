import Derived.Test.YtpkpdfljhpieaaaPf
namespace Go.Proofs.Ytpkpdfljhpieaaa
open Go.RowKit
set_option linter.unusedSimpArgs false
set_option linter.unusedVariables false
attribute [local go_sem] ob_alloc ob_drew ob_drewN ob_setCell ob_setBlock objSet_cells obMap_map obClock_map isMapI_map keyI_mk findI_nil findI_cons lookRes_some lookRes_none lookRes_some' lookRes_none' setBlock_alloc mapPut

set_option maxRecDepth 100000 in
set_option maxHeartbeats 2000000 in
theorem awake20 (w : World) : Calls Try.prog 24 #[] w fun o w' => o = .returned (.bool true) ∧ Keep [] w w' := by
  go_enter Try.func24, Try.ntmps24
  go_wp2_with fail
  refine (pNew w).mono ?_
  rintro _ w1 ⟨rfl, hB1, hk1, hs1⟩
  obtain ⟨p, hp⟩ : ∃ p, p = w.heap.size := ⟨_, rfl⟩
  have hpw : w.heap.size ≤ p := by omega
  rw [← hp] at hB1 ⊢
  clear hp hs1
  obtain ⟨S0, hS0⟩ : ∃ S0 : Nat → Int, S0 = fun _ => 0 := ⟨_, rfl⟩
  obtain ⟨R0, hR0⟩ : ∃ R0 : Nat → Nat → Int, R0 = fun _ _ => 0 := ⟨_, rfl⟩
  replace hB1 : BAt w1 p S0 R0 := by rw [hS0, hR0]; exact hB1
  have e1 : doR S0 3 0 = 0 := by rw [hS0]; decide
  have e2 : doR (doS S0 3 0) 3 2 = 5 := by rw [hS0]; decide
  have e3 : doR (doS (doS S0 3 0) 3 2) 3 1 = 0 := by rw [hS0]; decide
  have e4 : doR (doS (doS (doS S0 3 0) 3 2) 3 1) 3 2 = 0 := by rw [hS0]; decide
  have e5 : stR (doS (doS (doS (doS S0 3 0) 3 2) 3 1) 3 2) 3 = 3 := by rw [hS0]; decide
  have e6 : cnt (doS (doS (doS (doS S0 3 0) 3 2) 3 1) 3 2) 0 8 = 7 := by rw [hS0]; decide
  have E := Lib.hid (And.intro e1 (And.intro e2 (And.intro e3 (And.intro e4 (And.intro e5 e6)))))
  clear e1 e2 e3 e4 e5 e6 hS0 hR0
  go_wp2_with fail
  refine (pDo w1 p _ _ hB1 3 0).mono ?_
  rintro _ w2 ⟨rfl, hB2, hk2⟩
  rw [E.out.1]
  go_wp2_with fail
  refine (pDo w2 p _ _ hB2 3 2).mono ?_
  rintro _ w3 ⟨rfl, hB3, hk3⟩
  rw [E.out.2.1]
  go_wp2_with fail
  refine (pDo w3 p _ _ hB3 3 1).mono ?_
  rintro _ w4 ⟨rfl, hB4, hk4⟩
  rw [E.out.2.2.1]
  go_wp2_with fail
  refine (pDo w4 p _ _ hB4 3 2).mono ?_
  rintro _ w5 ⟨rfl, hB5, hk5⟩
  rw [E.out.2.2.2.1]
  go_wp2_with fail
  refine (pNext w5 3 3).mono ?_
  rintro _ w6 ⟨rfl, hk6⟩
  rw [show nx 3 3 = (4, 0) by decide]
  have hB6 := hB5.keep hk6 (by simp)
  go_wp2_with fail
  refine (pState w6 p _ _ hB6 3).mono ?_
  rintro _ w7 ⟨rfl, rfl⟩
  rw [E.out.2.2.2.2.1]
  go_wp2_with fail
  refine (pMany w6 p _ _ hB6 0).mono ?_
  rintro _ w7 ⟨rfl, hk7⟩
  rw [E.out.2.2.2.2.2]
  have hk : Keep [] w w7 := (((((hk1.andThen hk2 (by simp; omega)).andThen hk3 (by simp; omega)).andThen hk4 (by simp; omega)).andThen hk5 (by simp; omega)).trans hk6).trans hk7
  clear hB1 hB2 hB3 hB4 hB5 hB6
  go_wp2
  go_ret
  exact ⟨rfl, hk⟩

set_option maxRecDepth 100000 in
set_option maxHeartbeats 800000 in
theorem next20 (w : World) (s a : Int) : Calls Try.prog 9 #[.int .i64 s, .int .i64 a] w fun o w' => o = .returned (.bool true) ∧ Keep [] w w' := by
  go_enter Try.func9, Try.ntmps9
  go_wp2_with fail
  refine (awake20 w).mono ?_
  rintro _ w1 ⟨rfl, hk1⟩
  go_wp2_with fail
  refine (pNext w1 s a).mono ?_
  rintro _ w2 ⟨rfl, hk2⟩
  go_wp2_with fail
  refine (rNext w2 s a).mono ?_
  rintro _ w3 ⟨rfl, rfl⟩
  have hk := hk1.trans hk2
  go_wp2
  go_ret
  exact ⟨rfl, hk⟩
end Go.Proofs.Ytpkpdfljhpieaaa
