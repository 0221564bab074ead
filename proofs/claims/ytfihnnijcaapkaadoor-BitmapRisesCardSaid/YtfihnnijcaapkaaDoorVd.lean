import Derived.Test.YtfihnnijcaapkaaDoorVc
import Derived.Deep.LoopGhost
namespace Go.Proofs.YtfihnnijcaapkaaDoor
open Go.RowKit
set_option linter.unusedSimpArgs false
set_option linter.unusedVariables false
attribute [local go_sem] ob_alloc ob_drew ob_drewN ob_setCell ob_setBlock objSet_cells obMap_map obClock_map isMapI_map keyI_mk findI_nil findI_cons lookRes_some lookRes_none lookRes_some' lookRes_none' setBlock_alloc mapPut

theorem idx27 (f : Nat → Int) (q : Nat) (hq : q < 4) (w : World) : (Instr.index 27 (.agg #[.int .u64 (f 0), .int .u64 (f 1), .int .u64 (f 2), .int .u64 (f 3)]) (.int .i64 (q : Int))).run Tryd.prog w = .ok (.int .u64 (f q)) w := by
  obtain ⟨i, hi, hs⟩ := Option.map_eq_some_iff.1 (show (Tryd.prog.info? 26).map (·.size) = some 1 by kernel_rfl)
  exact run_index_int Tryd.underlying27 Tryd.underlying26 hi hs f q hq w
theorem idx27_0 (a b c d : Int) (w : World) : (Instr.index 27 (.agg #[.int .u64 a, .int .u64 b, .int .u64 c, .int .u64 d]) (.int .i64 0)).run Tryd.prog w = .ok (.int .u64 a) w := idx27 (fun j => [a, b, c, d].getD j 0) 0 (by omega) w
theorem idx27_1 (a b c d : Int) (w : World) : (Instr.index 27 (.agg #[.int .u64 a, .int .u64 b, .int .u64 c, .int .u64 d]) (.int .i64 1)).run Tryd.prog w = .ok (.int .u64 b) w := idx27 (fun j => [a, b, c, d].getD j 0) 1 (by omega) w
theorem idx27_2 (a b c d : Int) (w : World) : (Instr.index 27 (.agg #[.int .u64 a, .int .u64 b, .int .u64 c, .int .u64 d]) (.int .i64 2)).run Tryd.prog w = .ok (.int .u64 c) w := idx27 (fun j => [a, b, c, d].getD j 0) 2 (by omega) w
theorem idx27_3 (a b c d : Int) (w : World) : (Instr.index 27 (.agg #[.int .u64 a, .int .u64 b, .int .u64 c, .int .u64 d]) (.int .i64 3)).run Tryd.prog w = .ok (.int .u64 d) w := idx27 (fun j => [a, b, c, d].getD j 0) 3 (by omega) w
attribute [local go_sem] idx27_0 idx27_1 idx27_2 idx27_3
theorem len_words (S : Nat → Bool) : (memL S 256).length = cntB (wd S 0) 64 + cntB (wd S 1) 64 + cntB (wd S 2) 64 + cntB (wd S 3) 64 := by
  have g0 := cnt_word S 0 64 (by omega)
  have g1 := cnt_word S 1 64 (by omega)
  have g2 := cnt_word S 2 64 (by omega)
  have g3 := cnt_word S 3 64 (by omega)
  simp only [Nat.zero_mul, Nat.zero_add, Nat.one_mul, Nat.reduceMul, Nat.reduceAdd] at g0 g1 g2 g3
  have h0 : (memL S 0).length = 0 := rfl
  rw [g3, g2, g1, g0, h0, Nat.zero_add]
set_option maxRecDepth 100000 in
set_option maxHeartbeats 800000 in
theorem sLen (w : World) (p : Nat) (S : Nat → Bool) (h : IsSet w p S) :
    Calls Tryd.prog 17 #[.pointer (some ⟨p, 0, none⟩)] w fun e w' => e = .returned (.int .i64 ((memL S 256).length : Nat)) ∧ w' = w := by
  have c0 := h.cell (j := 0) (by omega)
  have c1 := h.cell (j := 1) (by omega)
  have c2 := h.cell (j := 2) (by omega)
  have c3 := h.cell (j := 3) (by omega)
  have q0 := count_any (wd S 0) (wd_lt _ _) w
  have q1 := count_any (wd S 1) (wd_lt _ _) w
  have q2 := count_any (wd S 2) (wd_lt _ _) w
  have q3 := count_any (wd S 3) (wd_lt _ _) w
  have e0 := len_words S
  have b0 := cntB_le (wd S 0) 64
  have b1 := cntB_le (wd S 1) 64
  have b2 := cntB_le (wd S 2) 64
  have b3 := cntB_le (wd S 3) 64
  rw [e0]
  generalize cntB (wd S 0) 64 = m0 at *
  generalize cntB (wd S 1) 64 = m1 at *
  generalize cntB (wd S 2) 64 = m2 at *
  generalize cntB (wd S 3) 64 = m3 at *
  generalize wd S 0 = x0 at *
  generalize wd S 1 = x1 at *
  generalize wd S 2 = x2 at *
  generalize wd S 3 = x3 at *
  have hl := ob_lt h
  clear h e0
  go_enter Tryd.func17, Tryd.ntmps17
  go_wp2_with fail
  clear c0 c1 c2 c3
  go_loopg [3, 5, 10] 4 (fun gn s3 s5 s10 wr => wr = w ∧ ∃ k : Nat, k ≤ 4 ∧ gn = 4 - k ∧ s10 = .int .i64 k ∧ s3 = .int .i64 (([0, (m0 : Int), m0 + m1, m0 + m1 + m2, m0 + m1 + m2 + m3] : List Int).getD k 0))
  case atStart => exact ⟨rfl, 0, by omega, rfl, rfl, rfl⟩
  case round =>
    obtain ⟨rfl, k, hk, rfl, rfl, rfl⟩ := hrel
    rcases (by omega : k = 0 ∨ k = 1 ∨ k = 2 ∨ k = 3 ∨ k = 4) with rfl | rfl | rfl | rfl | rfl
    · simp only [List.getD_cons_zero, List.getD_cons_succ]
      go_wp2_with (go_at_call 20; refine q0.mono ?_; rintro _ _ ⟨rfl, rfl⟩)
      go_roundg 3
      case measure => omega
      case rel => exact ⟨rfl, 1, by omega, rfl, rfl, rfl⟩
    · simp only [List.getD_cons_zero, List.getD_cons_succ]
      go_wp2_with (go_at_call 20; refine q1.mono ?_; rintro _ _ ⟨rfl, rfl⟩)
      go_roundg 2
      case measure => omega
      case rel => exact ⟨rfl, 2, by omega, rfl, rfl, rfl⟩
    · simp only [List.getD_cons_zero, List.getD_cons_succ]
      go_wp2_with (go_at_call 20; refine q2.mono ?_; rintro _ _ ⟨rfl, rfl⟩)
      go_roundg 1
      case measure => omega
      case rel => exact ⟨rfl, 3, by omega, rfl, rfl, rfl⟩
    · simp only [List.getD_cons_zero, List.getD_cons_succ]
      go_wp2_with (go_at_call 20; refine q3.mono ?_; rintro _ _ ⟨rfl, rfl⟩)
      go_roundg 0
      case measure => omega
      case rel => exact ⟨rfl, 4, by omega, rfl, rfl, rfl⟩
    · simp only [List.getD_cons_zero, List.getD_cons_succ]
      go_wp2_with fail
      go_ret
      exact ⟨rfl, rfl⟩
end Go.Proofs.YtfihnnijcaapkaaDoor
