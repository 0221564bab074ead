import Derived.Test.YtfljhfggjbkomaaCe
namespace Go.Proofs.Ytfljhfggjbkomaa
open Go.RowKit
set_option maxRecDepth 100000 in
set_option maxHeartbeats 1000000 in
theorem eql69 (a0 a1 a2 a3 a4 a5 a6 a7 a8 b0 b1 b2 b3 b4 b5 b6 b7 b8 : Int) (w : World) :
    (binOp .eql 69 (.agg #[.int .u64 a0, .int .u64 a1, .int .u64 a2, .int .u64 a3, .int .u64 a4, .int .u64 a5, .int .u64 a6, .int .u64 a7, .int .u64 a8]) (.agg #[.int .u64 b0, .int .u64 b1, .int .u64 b2, .int .u64 b3, .int .u64 b4, .int .u64 b5, .int .u64 b6, .int .u64 b7, .int .u64 b8])).run Try.prog w = .ok (.bool (decide (a0 = b0 ∧ a1 = b1 ∧ a2 = b2 ∧ a3 = b3 ∧ a4 = b4 ∧ a5 = b5 ∧ a6 = b6 ∧ a7 = b7 ∧ a8 = b8))) w := by
  have r0 : List.range 8 = [0, 1, 2, 3, 4, 5, 6, 7] := rfl
  obtain ⟨i0, hi0⟩ : ∃ i, Try.prog.info? 65 = some i := ⟨_, rfl⟩
  have hc0 : Try.prog.cellsOf 65 = Try.prog.cellsOf 65 := rfl
  have ha0 := fun (d : Nat) (xs ys : Array Value) (w : World) => run_equalIn_array (P := Try.prog) w d xs ys Try.underlying67 hi0
  have hs0 : Try.prog.cellsOf 65 = 1 := by kernel_rfl
  simp only [hs0, r0] at ha0
  simp only [Op.eqItems] at ha0
  clear hc0 hs0
  go_simp
  simp [ite_okb]
set_option maxRecDepth 100000 in
set_option maxHeartbeats 1000000 in
theorem neq69 (a0 a1 a2 a3 a4 a5 a6 a7 a8 b0 b1 b2 b3 b4 b5 b6 b7 b8 : Int) (w : World) :
    (binOp .neq 69 (.agg #[.int .u64 a0, .int .u64 a1, .int .u64 a2, .int .u64 a3, .int .u64 a4, .int .u64 a5, .int .u64 a6, .int .u64 a7, .int .u64 a8]) (.agg #[.int .u64 b0, .int .u64 b1, .int .u64 b2, .int .u64 b3, .int .u64 b4, .int .u64 b5, .int .u64 b6, .int .u64 b7, .int .u64 b8])).run Try.prog w = .ok (.bool (!decide (a0 = b0 ∧ a1 = b1 ∧ a2 = b2 ∧ a3 = b3 ∧ a4 = b4 ∧ a5 = b5 ∧ a6 = b6 ∧ a7 = b7 ∧ a8 = b8))) w := by
  have r0 : List.range 8 = [0, 1, 2, 3, 4, 5, 6, 7] := rfl
  obtain ⟨i0, hi0⟩ : ∃ i, Try.prog.info? 65 = some i := ⟨_, rfl⟩
  have hc0 : Try.prog.cellsOf 65 = Try.prog.cellsOf 65 := rfl
  have ha0 := fun (d : Nat) (xs ys : Array Value) (w : World) => run_equalIn_array (P := Try.prog) w d xs ys Try.underlying67 hi0
  have hs0 : Try.prog.cellsOf 65 = 1 := by kernel_rfl
  simp only [hs0, r0] at ha0
  simp only [Op.eqItems] at ha0
  clear hc0 hs0
  go_simp
  simp [ite_okn]
set_option maxRecDepth 100000 in
set_option maxHeartbeats 1000000 in
theorem eql71 (a0 a1 a2 a3 b0 b1 b2 b3 : Int) (w : World) :
    (binOp .eql 71 (.agg #[.int .i64 a0, .int .i64 a1, .int .i64 a2, .int .i64 a3]) (.agg #[.int .i64 b0, .int .i64 b1, .int .i64 b2, .int .i64 b3])).run Try.prog w = .ok (.bool (decide (a0 = b0 ∧ a1 = b1 ∧ a2 = b2 ∧ a3 = b3))) w := by
  go_simp
  simp [ite_okb]
set_option maxRecDepth 100000 in
set_option maxHeartbeats 1000000 in
theorem neq71 (a0 a1 a2 a3 b0 b1 b2 b3 : Int) (w : World) :
    (binOp .neq 71 (.agg #[.int .i64 a0, .int .i64 a1, .int .i64 a2, .int .i64 a3]) (.agg #[.int .i64 b0, .int .i64 b1, .int .i64 b2, .int .i64 b3])).run Try.prog w = .ok (.bool (!decide (a0 = b0 ∧ a1 = b1 ∧ a2 = b2 ∧ a3 = b3))) w := by
  go_simp
  simp [ite_okn]
end Go.Proofs.Ytfljhfggjbkomaa
