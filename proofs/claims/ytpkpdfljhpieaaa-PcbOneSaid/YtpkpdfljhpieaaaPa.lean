import Derived.Test.YtpkpdfljhpieaaaLibW
import Derived.Test.YtpkpdfljhpieaaaRows
namespace Go.Proofs.Ytpkpdfljhpieaaa
open Go.RowKit
set_option linter.unusedSimpArgs false
set_option linter.unusedVariables false
attribute [local go_sem] ob_alloc ob_drew ob_drewN ob_setCell ob_setBlock objSet_cells obMap_map obClock_map isMapI_map keyI_mk findI_nil findI_cons lookRes_some lookRes_none lookRes_some' lookRes_none' setBlock_alloc mapPut

/-! ### Next -/
def nx (s a : Int) : Int × Int :=
  if s < 0 ∨ 4 < s ∨ a < 0 ∨ 5 < a then (0, 1)
  else if a = 0 ∧ s = 0 then (1, 0) else if a = 1 ∧ (s = 1 ∨ s = 4) then (2, 0) else if (a = 2 ∧ s = 2) ∨ (a = 4 ∧ s = 4) then (3, 0)
  else if a = 3 ∧ s = 3 then (4, 0) else if a = 5 ∧ s ≠ 0 then (0, 0) else (0, 5)
def wf (i : Nat) : Int := [1, -1, -1, -1, -1, -1, 2, -1, -1, 2, -1, -1, 3, -1, -1, -1, -1, -1, 4, -1, -1, -1, -1, -1, 3, -1, 0, 0, 0, 0].getD i 0
theorem size64 : (Try.prog.info? 64).map (·.size) = some 30 := by kernel_rfl
theorem zero64 (w : World) : ob (w.alloc (.cells #[.int .i64 0, .int .i64 0, .int .i64 0, .int .i64 0, .int .i64 0, .int .i64 0, .int .i64 0, .int .i64 0, .int .i64 0, .int .i64 0, .int .i64 0, .int .i64 0, .int .i64 0, .int .i64 0, .int .i64 0, .int .i64 0, .int .i64 0, .int .i64 0, .int .i64 0, .int .i64 0, .int .i64 0, .int .i64 0, .int .i64 0, .int .i64 0, .int .i64 0, .int .i64 0, .int .i64 0, .int .i64 0, .int .i64 0, .int .i64 0] 64)) w.heap.size = some (.cells (blk (vI fun _ => 0) 30) 64 (0, 0)) := al_new _ _ rfl
set_option maxRecDepth 100000 in
set_option maxRecDepth 100000 in
set_option maxHeartbeats 400000 in
theorem pWays (w : World) : Calls Try.prog 43 #[] w fun o w' => o = .returned (.agg (blk (vI wf) 30)) ∧ Keep [] w w' := by
  have hk : Keep [] w ((w.alloc (.cells #[.int .i64 0, .int .i64 0, .int .i64 0, .int .i64 0, .int .i64 0, .int .i64 0, .int .i64 0, .int .i64 0, .int .i64 0, .int .i64 0, .int .i64 0, .int .i64 0, .int .i64 0, .int .i64 0, .int .i64 0, .int .i64 0, .int .i64 0, .int .i64 0, .int .i64 0, .int .i64 0, .int .i64 0, .int .i64 0, .int .i64 0, .int .i64 0, .int .i64 0, .int .i64 0, .int .i64 0, .int .i64 0, .int .i64 0, .int .i64 0] 64)).setCells w.heap.size 0 (blk (vI wf) 30).toList) := ((Keep.refl _ _).alloc _).setCells (.inr (Nat.le_refl _)) _ _
  go_enter Try.func43, Try.ntmps43
  go_wp2_with (refine wpList_store_mid rfl 64 (.tmp 0) (.tmp 7) rfl w.heap.size 0 (blk (vI wf) 30) rfl rfl (blk_there (zero64 w) (by rw [blk_size]; omega)) (by rw [size64, blk_size]) (blk_all _ _ (fun _ _ => rfl)) ?_)
  refine bodyPost_ret (ret_row (P := Try.prog) Try.results43 (cs := blk (vI wf) 30) (t := 64) (fr := (0, 0)) (g := w.heap.size) (store_blk (zero64 w)) rfl Try.underlying64 rfl (by rw [size64, blk_size])) rfl ?_
  exact ⟨rfl, hk⟩
theorem nx_wf : ∀ a, a < 6 → ∀ s, s < 5 → nx (s : Nat) (a : Nat) = if wf (a * 5 + s) = -1 then (0, 5) else (wf (a * 5 + s), 0) := by decide
theorem idx64 (a : Nat) (ha : a < 6) (w : World) : (Instr.index 64 (.agg (blk (vI wf) 30)) (.int .i64 (a : Int))).run Try.prog w = .ok (.agg (blk (fun j => .int .i64 (wf (a * 5 + j))) 5)) w := by
  obtain ⟨i, hi, hs⟩ := Option.map_eq_some_iff.1 (show (Try.prog.info? 63).map (·.size) = some 5 by kernel_rfl)
  exact run_index_agg Try.underlying64 Try.underlying63 rfl hi hs (vI wf) 30 rfl a ha w
theorem idx63 (g : Nat → Int) (q : Nat) (hq : q < 5) (w : World) : (Instr.index 63 (.agg (blk (fun j => .int .i64 (g j)) 5)) (.int .i64 (q : Int))).run Try.prog w = .ok (.int .i64 (g q)) w := by
  obtain ⟨i, hi, hs⟩ := Option.map_eq_some_iff.1 (show (Try.prog.info? 3).map (·.size) = some 1 by kernel_rfl)
  exact run_index_int Try.underlying63 Try.underlying3 hi hs g q hq w
set_option maxRecDepth 100000 in
set_option maxRecDepth 100000 in
set_option maxHeartbeats 800000 in
theorem pNext (w : World) (s a : Int) : Calls Try.prog 25 #[.int .i64 s, .int .i64 a] w fun o w' => o = .returned (.tuple #[.int .i64 (nx s a).1, .int .i64 (nx s a).2]) ∧ Keep [] w w' := by
  have hk0 := Keep.refl [] w
  by_cases hb : s < 0 ∨ 4 < s ∨ a < 0 ∨ 5 < a
  · rw [show nx s a = (0, 1) by unfold nx; rw [if_pos hb]]
    rcases (show s < 0 ∨ (¬ s < 0 ∧ 5 ≤ s) ∨ (¬ s < 0 ∧ ¬ 5 ≤ s ∧ a < 0) ∨ (¬ s < 0 ∧ ¬ 5 ≤ s ∧ ¬ a < 0 ∧ 6 ≤ a) by omega) with h | ⟨h, h1⟩ | ⟨h, h1, h2⟩ | ⟨h, h1, h2, h3⟩
    all_goals
      clear hb
      go_enter Try.func25, Try.ntmps25
      go_wp2
      go_ret2
      exact ⟨rfl, hk0⟩
  · obtain ⟨s, rfl⟩ := Int.eq_ofNat_of_zero_le (a := s) (by omega)
    obtain ⟨a, rfl⟩ := Int.eq_ofNat_of_zero_le (a := a) (by omega)
    have hs : s < 5 := by omega
    have ha : a < 6 := by omega
    have hnx := nx_wf a ha s hs
    rw [hnx]
    clear hb hk0 hnx
    by_cases h1 : wf (a * 5 + s) = -1
    · rw [if_pos h1]
      have H1 := Lib.hid h1
      clear h1
      go_enter Try.func25, Try.ntmps25
      go_wp2_with fail
      refine (pWays w).mono ?_
      rintro _ w1 ⟨rfl, hk1⟩
      go_wp2_with (first
        | (refine wpList_index_eq rfl 64 (.tmp 21) (.tmp 22) rfl rfl rfl (idx64 a ha w1) ?_)
        | (refine wpList_index_eq rfl 63 (.tmp 23) (.tmp 24) rfl rfl rfl (idx63 _ s hs w1) ?_; rw [H1.out]))
      go_ret2
      exact ⟨rfl, hk1⟩
    · rw [if_neg h1]
      have h2 : (wf (a * 5 + s) == -1) = false := by simpa using h1
      clear h1
      go_enter Try.func25, Try.ntmps25
      go_wp2_with fail
      refine (pWays w).mono ?_
      rintro _ w1 ⟨rfl, hk1⟩
      go_wp2_with (first
        | (refine wpList_index_eq rfl 64 (.tmp 21) (.tmp 22) rfl rfl rfl (idx64 a ha w1) ?_)
        | (refine wpList_index_eq rfl 63 (.tmp 23) (.tmp 24) rfl rfl rfl (idx63 _ s hs w1) ?_))
      go_ret2
      exact ⟨rfl, hk1⟩
set_option maxRecDepth 100000 in
set_option maxRecDepth 100000 in
set_option maxHeartbeats 800000 in
theorem rNext (w : World) (s a : Int) : Calls Try.prog 26 #[.int .i64 s, .int .i64 a] w fun o w' => o = .returned (.tuple #[.int .i64 (nx s a).1, .int .i64 (nx s a).2]) ∧ w = w' := by
  by_cases hb : s < 0 ∨ 4 < s ∨ a < 0 ∨ 5 < a
  · rw [show nx s a = (0, 1) by unfold nx; rw [if_pos hb]]
    rcases (show s < 0 ∨ (¬ s < 0 ∧ 4 < s) ∨ (¬ s < 0 ∧ ¬ 4 < s ∧ a < 0) ∨ (¬ s < 0 ∧ ¬ 4 < s ∧ ¬ a < 0 ∧ 5 < a) by omega) with h | ⟨h, h1⟩ | ⟨h, h1, h2⟩ | ⟨h, h1, h2, h3⟩
    all_goals
      clear hb
      go_enter Try.func26, Try.ntmps26
      go_wp2
      go_ret2
      exact ⟨rfl, rfl⟩
  · have hs : s = 0 ∨ s = 1 ∨ s = 2 ∨ s = 3 ∨ s = 4 := by omega
    have ha : a = 0 ∨ a = 1 ∨ a = 2 ∨ a = 3 ∨ a = 4 ∨ a = 5 := by omega
    clear hb
    rcases ha with rfl | rfl | rfl | rfl | rfl | rfl
    all_goals
      rcases hs with rfl | rfl | rfl | rfl | rfl
    all_goals
      go_enter Try.func26, Try.ntmps26
      go_wp2
      go_ret2
      exact ⟨rfl, rfl⟩
end Go.Proofs.Ytpkpdfljhpieaaa
