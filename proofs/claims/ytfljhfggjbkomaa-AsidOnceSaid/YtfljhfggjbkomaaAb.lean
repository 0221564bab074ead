import Derived.Test.YtfljhfggjbkomaaAa
import Derived.Test.YtfljhfggjbkomaaRows
namespace Go.Proofs.Ytfljhfggjbkomaa
open Go.RowKit
set_option linter.unusedSimpArgs false
set_option linter.unusedVariables false
attribute [local go_sem] ob_alloc ob_drew ob_drewN ob_setCell ob_setBlock objSet_cells obMap_map obClock_map isMapI_map keyI_mk findI_nil findI_cons lookRes_some lookRes_none lookRes_some' lookRes_none' setBlock_alloc mapPut

theorem info3 : (Try.prog.info? 3).map (fun i => (i.zero, i.size, i.bytes)) = some (some (.int .i64 0), 1, 8) := by kernel_rfl
theorem info4 : (Try.prog.info? 4).map (fun i => (i.zero, i.size, i.bytes)) = some (some (.bool false), 1, 1) := by kernel_rfl
theorem make32 (n : Nat) (hn : n ≤ 1000000) (w : World) : (Instr.makeSlice 32 (.int .i64 (n : Int)) (.int .i64 (n : Int))).run Try.prog w = .ok (.slice (some ⟨w.heap.size, 0, none⟩) n n) (w.alloc (.cells (i64s (List.replicate n 0)).toArray 3)) := by
  rw [← zeros_i64]; exact make_row Try.underlying32 info3 rfl n (by omega) (by omega) w
theorem make130 (n : Nat) (hn : n ≤ 1000000) (w : World) : (Instr.makeSlice 130 (.int .i64 (n : Int)) (.int .i64 (n : Int))).run Try.prog w = .ok (.slice (some ⟨w.heap.size, 0, none⟩) n n) (w.alloc (.cells (bools (List.replicate n false)).toArray 4)) := by
  rw [← zeros_bool]; exact make_row Try.underlying130 info4 rfl n (by omega) (by omega) w

def okMany (many : Int) : Bool := decide (1 ≤ many ∧ many ≤ 8)

set_option maxRecDepth 100000 in
set_option maxHeartbeats 400000 in
theorem aNew_no (many : Int) (h : okMany many = false) (w : World) :
    Calls Try.prog 48 #[.int .i64 many] w fun o w' => o = .returned (.tuple #[.pointer none, .int .i64 1]) ∧ w' = w := by
  have h1 : ¬ (1 ≤ many ∧ many ≤ 8) := by simpa [okMany] using h
  clear h
  by_cases a1 : many < 1
  · clear h1
    go_enter Try.func48, Try.ntmps48
    go_wp2
    go_ret2
    exact ⟨rfl, rfl⟩
  · have a2 : 8 < many := by omega
    clear h1
    go_enter Try.func48, Try.ntmps48
    go_wp2
    go_ret2
    exact ⟨rfl, rfl⟩
set_option maxRecDepth 100000 in
set_option maxHeartbeats 400000 in
theorem rNew_no (many : Int) (h : okMany many = false) (w : World) :
    Calls Try.prog 49 #[.int .i64 many] w fun o w' => o = .returned (.tuple #[.pointer none, .int .i64 1]) ∧ w' = w := by
  have h1 : ¬ (1 ≤ many ∧ many ≤ 8) := by simpa [okMany] using h
  clear h
  by_cases a1 : many < 1
  · clear h1
    go_enter Try.func49, Try.ntmps49
    go_wp2
    go_ret2
    exact ⟨rfl, rfl⟩
  · have a2 : 8 < many := by omega
    clear h1
    go_enter Try.func49, Try.ntmps49
    go_wp2
    go_ret2
    exact ⟨rfl, rfl⟩
set_option maxRecDepth 100000 in
set_option maxHeartbeats 400000 in
theorem aNew_ok (n : Nat) (h1 : 1 ≤ n) (h2 : n ≤ 8) (w : World) (L : List Nat) (hL : ∀ x, x ∈ L → x < w.heap.size ∨ x = w.heap.size + 2) :
    Calls Try.prog 48 #[.int .i64 n] w fun o w' => o = .returned (.tuple #[.pointer (some ⟨w.heap.size + 2, 0, none⟩), .int .i64 0]) ∧ PoolAt w' (w.heap.size + 2) L (List.replicate n 0) (List.replicate n false) ∧ Keep [] w w' ∧ w'.heap.size = w.heap.size + 3 := by
  have hmk := make32 n (by omega)
  have hmm := @run_makeMap Try.prog
  go_enter Try.func48, Try.ntmps48
  go_wp2
  go_ret2
  refine ⟨rfl, ⟨w.heap.size, w.heap.size + 1, [], ?_, ?_, by omega, by omega, by omega, ?_, ?_, MapL.new ?_, GivenIs.start n, by simpa using h1, by simpa using h2⟩, by repeat (first | exact Keep.refl _ _ | refine Keep.drew ?_ | refine Keep.drewN ?_ _ | refine Keep.setCell ?_ (by first | (left; simp; done) | (right; simp; done) | (right; omega) | (right; simp; omega)) _ _ | refine Keep.setBlock ?_ (by first | (left; simp; done) | (right; simp; done) | (right; omega) | (right; simp; omega)) _ | refine Keep.alloc ?_ _ | refine Keep.andThen ?_ (by assumption) (by first | (simp; done) | (simp; omega) | (intro x hx; simp at hx; simp; omega))), by simp⟩
  · intro hx; rcases hL _ hx with h | h <;> omega
  · intro hx; rcases hL _ hx with h | h <;> omega
  · rw [List.length_replicate]; simp [ob_alloc, ob_drew, ob_setCell, ob_setBlock, objSet_cells, Nat.add_assoc]
  · simp [ob_alloc, ob_drew, ob_setCell, ob_setBlock, objSet_cells, Nat.add_assoc]
  · simp [ob_alloc, ob_drew, ob_setCell, ob_setBlock, objSet_cells, Nat.add_assoc]
set_option maxRecDepth 100000 in
set_option maxHeartbeats 400000 in
theorem rNew_ok (n : Nat) (h1 : 1 ≤ n) (h2 : n ≤ 8) (w : World) (L : List Nat) (hL : ∀ x, x ∈ L → x < w.heap.size ∨ x = w.heap.size + 2) :
    Calls Try.prog 49 #[.int .i64 n] w fun o w' => o = .returned (.tuple #[.pointer (some ⟨w.heap.size + 2, 0, none⟩), .int .i64 0]) ∧ RPoolAt w' (w.heap.size + 2) L (List.replicate n 0) (List.replicate n false) ∧ Keep [] w w' ∧ w'.heap.size = w.heap.size + 3 := by
  have hmk := make32 n (by omega)
  have hmk2 := make130 n (by omega)
  go_enter Try.func49, Try.ntmps49
  go_wp2
  go_region
  all_goals go_wp2
  all_goals go_ret2
  · refine ⟨rfl, ⟨w.heap.size, w.heap.size + 1, ?_, ?_, by omega, by omega, by omega, ?_, ?_, ?_, by simp, by simpa using h1, by simpa using h2⟩, by repeat (first | exact Keep.refl _ _ | refine Keep.drew ?_ | refine Keep.drewN ?_ _ | refine Keep.setCell ?_ (by first | (left; simp; done) | (right; simp; done) | (right; omega) | (right; simp; omega)) _ _ | refine Keep.setBlock ?_ (by first | (left; simp; done) | (right; simp; done) | (right; omega) | (right; simp; omega)) _ | refine Keep.alloc ?_ _ | refine Keep.andThen ?_ (by assumption) (by first | (simp; done) | (simp; omega) | (intro x hx; simp at hx; simp; omega))), by simp⟩
    · intro hx; rcases hL _ hx with h | h <;> omega
    · intro hx; rcases hL _ hx with h | h <;> omega
    · rw [List.length_replicate]; simp [ob_alloc, ob_drew, ob_setCell, ob_setBlock, objSet_cells, Nat.add_assoc]
    · simp [ob_alloc, ob_drew, ob_setCell, ob_setBlock, objSet_cells, Nat.add_assoc]
    · simp [ob_alloc, ob_drew, ob_setCell, ob_setBlock, objSet_cells, Nat.add_assoc]
  · refine ⟨rfl, ⟨w.heap.size + 1, w.heap.size, ?_, ?_, by omega, by omega, by omega, ?_, ?_, ?_, by simp, by simpa using h1, by simpa using h2⟩, by repeat (first | exact Keep.refl _ _ | refine Keep.drew ?_ | refine Keep.drewN ?_ _ | refine Keep.setCell ?_ (by first | (left; simp; done) | (right; simp; done) | (right; omega) | (right; simp; omega)) _ _ | refine Keep.setBlock ?_ (by first | (left; simp; done) | (right; simp; done) | (right; omega) | (right; simp; omega)) _ | refine Keep.alloc ?_ _ | refine Keep.andThen ?_ (by assumption) (by first | (simp; done) | (simp; omega) | (intro x hx; simp at hx; simp; omega))), by simp⟩
    · intro hx; rcases hL _ hx with h | h <;> omega
    · intro hx; rcases hL _ hx with h | h <;> omega
    · rw [List.length_replicate]; simp [ob_alloc, ob_drew, ob_setCell, ob_setBlock, objSet_cells, Nat.add_assoc]
    · simp [ob_alloc, ob_drew, ob_setCell, ob_setBlock, objSet_cells, Nat.add_assoc]
    · simp [ob_alloc, ob_drew, ob_setCell, ob_setBlock, objSet_cells, Nat.add_assoc]
end Go.Proofs.Ytfljhfggjbkomaa
