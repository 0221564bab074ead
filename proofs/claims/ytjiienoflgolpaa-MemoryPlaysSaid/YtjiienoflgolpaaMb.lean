import Derived.Test.YtjiienoflgolpaaMa
namespace Go.Proofs.Ytjiienoflgolpaa
open Go.RowKit
set_option linter.unusedSimpArgs false
set_option linter.unusedVariables false
attribute [local go_sem] ob_alloc ob_drew ob_drewN ob_setCell ob_setBlock objSet_cells obMap_map obClock_map isMapI_map keyI_mk findI_nil findI_cons lookRes_some lookRes_none lookRes_some' lookRes_none' setBlock_alloc mapPut

theorem ret_p {g x y : Nat} (h : x = y) : Ending.returned (.pointer (some ⟨g, x, none⟩)) = Ending.returned (.pointer (some ⟨g, y, none⟩)) := by rw [h]
theorem okFrames_out {n : Int} (h : okFrames n = true) : ∃ k : Nat, n = k ∧ 1 ≤ k ∧ k ≤ 256 := by
  have h : 1 ≤ n ∧ n ≤ 256 := by simpa [okFrames] using h
  exact ⟨n.toNat, by omega, by omega, by omega⟩

/-! ### New -/
set_option maxRecDepth 100000 in
set_option maxHeartbeats 400000 in
theorem mNew_no (n : Int) (h : okFrames n = false) (w : World) : Calls Try.prog 24 #[.int .i64 n] w fun o w' => o = .returned (.tuple #[.pointer none, .int .i64 1]) ∧ w = w' := by
  have h1 : ¬ (1 ≤ n ∧ n ≤ 256) := by simpa [okFrames] using h
  rcases (show n < 1 ∨ (¬ n < 1 ∧ 256 < n) by omega) with a | a
  all_goals
    clear h h1
    go_enter Try.func24, Try.ntmps24
    go_wp2
    go_ret2
    exact ⟨rfl, rfl⟩
set_option maxRecDepth 100000 in
set_option maxHeartbeats 400000 in
theorem rmNew_no (n : Int) (h : okFrames n = false) (w : World) : Calls Try.prog 40 #[.int .i64 n] w fun o w' => o = .returned (.tuple #[.pointer none, .int .i64 1]) ∧ w = w' := by
  have h1 : ¬ (1 ≤ n ∧ n ≤ 256) := by simpa [okFrames] using h
  rcases (show n < 1 ∨ (¬ n < 1 ∧ 256 < n) by omega) with a | a
  all_goals
    clear h h1
    go_enter Try.func40, Try.ntmps40
    go_wp2
    go_ret2
    exact ⟨rfl, rfl⟩
set_option maxRecDepth 100000 in
set_option maxHeartbeats 400000 in
theorem mNew_ok (n : Nat) (h1 : 1 ≤ n) (h2 : n ≤ 256) (w : World) : Calls Try.prog 24 #[.int .i64 n] w fun o w' => o = .returned (.tuple #[.pointer (some ⟨w.heap.size + 1, 0, none⟩), .int .i64 0]) ∧ MemAt w' (w.heap.size + 1) w.heap.size n (fun _ => 0) ∧ Keep [] w w' ∧ w'.heap.size = w.heap.size + 2 := by
  have hmk := make94 n h2
  go_enter Try.func24, Try.ntmps24
  go_wp2
  go_ret2
  refine ⟨rfl, ⟨?_, ?_, by omega, h1, h2⟩, by repeat (first | exact Keep.refl _ _ | refine Keep.drew ?_ | refine Keep.drewN ?_ _ | refine Keep.setCell ?_ (by first | (left; simp; done) | (right; simp; done) | (right; omega) | (right; simp; omega)) _ _ | refine Keep.setBlock ?_ (by first | (left; simp; done) | (right; simp; done) | (right; omega) | (right; simp; omega)) _ | refine Keep.alloc ?_ _ | refine Keep.andThen ?_ (by assumption) (by first | (simp; done) | (simp; omega) | (intro x hx; simp at hx; simp; omega))), by simp⟩
  · simp [ob_alloc, ob_drew, ob_setCell, ob_setBlock, objSet_cells, Nat.add_assoc]
  · simp [ob_alloc, ob_drew, ob_setCell, ob_setBlock, objSet_cells, Nat.add_assoc]
set_option maxRecDepth 100000 in
set_option maxHeartbeats 400000 in
theorem rmNew_ok (n : Nat) (h1 : 1 ≤ n) (h2 : n ≤ 256) (w : World) : Calls Try.prog 40 #[.int .i64 n] w fun o w' => o = .returned (.tuple #[.pointer (some ⟨w.heap.size + 1, 0, none⟩), .int .i64 0]) ∧ RMemAt w' (w.heap.size + 1) w.heap.size n (fun _ => 0) ∧ Keep [] w w' ∧ w'.heap.size = w.heap.size + 2 := by
  have hmk := make31 (n * 16) (by omega)
  have e : ((n * 16 : Nat) : Int) = 16 * (n : Int) := by omega
  rw [e] at hmk
  clear e
  go_enter Try.func40, Try.ntmps40
  go_wp2
  go_ret2
  refine ⟨rfl, ⟨?_, ?_, by omega, h1, h2⟩, by repeat (first | exact Keep.refl _ _ | refine Keep.drew ?_ | refine Keep.drewN ?_ _ | refine Keep.setCell ?_ (by first | (left; simp; done) | (right; simp; done) | (right; omega) | (right; simp; omega)) _ _ | refine Keep.setBlock ?_ (by first | (left; simp; done) | (right; simp; done) | (right; omega) | (right; simp; omega)) _ | refine Keep.alloc ?_ _ | refine Keep.andThen ?_ (by assumption) (by first | (simp; done) | (simp; omega) | (intro x hx; simp at hx; simp; omega))), by simp⟩
  · simp [ob_alloc, ob_drew, ob_setCell, ob_setBlock, objSet_cells, Nat.add_assoc]
  · simp [ob_alloc, ob_drew, ob_setCell, ob_setBlock, objSet_cells, Nat.add_assoc]

/-! ### at, has -/
def okA (n : Nat) (a : Int) : Bool := decide (0 ≤ a ∧ a < n * 16)
theorem okA_out {n : Nat} {a : Int} (h : okA n a = true) : ∃ k : Nat, a = k ∧ k < n * 16 := by
  have h : 0 ≤ a ∧ a < n * 16 := by simpa [okA] using h
  exact ⟨a.toNat, by omega, by omega⟩
set_option maxRecDepth 100000 in
set_option maxHeartbeats 400000 in
theorem mAt_yes (w : World) (m g n : Nat) (s : Nat → Int) (hM : MemAt w m g n s) (a : Nat) (ha : a < n * 16) :
    Calls Try.prog 52 #[.pointer (some ⟨m, 0, none⟩), .int .i64 a] w fun o w' => o = .returned (.pointer (some ⟨g, a, none⟩)) ∧ w = w' := by
  have c0 := cell_of_ob hM.1
  have hn1 := hM.2.2.2.1
  have hn2 := hM.2.2.2.2
  clear hM
  go_enter Try.func52, Try.ntmps52
  go_wp2
  go_ret
  exact ⟨ret_p (show a / 16 * 16 + a % 16 = a by omega), rfl⟩
set_option maxRecDepth 100000 in
set_option maxHeartbeats 400000 in
theorem mAt_no (w : World) (m g n : Nat) (s : Nat → Int) (hM : MemAt w m g n s) (a : Int) (ha : okA n a = false) :
    Calls Try.prog 52 #[.pointer (some ⟨m, 0, none⟩), .int .i64 a] w fun o w' => o = .returned (.pointer none) ∧ w = w' := by
  have c0 := cell_of_ob hM.1
  have hn1 := hM.2.2.2.1
  have hn2 := hM.2.2.2.2
  have h : ¬ (0 ≤ a ∧ a < n * 16) := by simpa [okA] using ha
  clear hM
  rcases (show a < 0 ∨ (¬ a < 0 ∧ (n : Int) * 16 ≤ a) by omega) with h1 | h1
  all_goals
    clear ha h
    go_enter Try.func52, Try.ntmps52
    go_wp2
    go_ret
    exact ⟨rfl, rfl⟩
def hasB (n : Nat) (f k : Int) : Bool := decide (1 ≤ k ∧ k ≤ n ∧ 0 ≤ f ∧ f ≤ n - k)
set_option maxRecDepth 100000 in
set_option maxHeartbeats 400000 in
theorem mHas (w : World) (m g n : Nat) (s : Nat → Int) (hM : MemAt w m g n s) (f k : Int) :
    Calls Try.prog 53 #[.pointer (some ⟨m, 0, none⟩), .int .i64 f, .int .i64 k] w fun o w' => o = .returned (.bool (hasB n f k)) ∧ w = w' := by
  have c0 := cell_of_ob hM.1
  have hn1 := hM.2.2.2.1
  have hn2 := hM.2.2.2.2
  clear hM
  by_cases h1 : 1 ≤ k
  · by_cases h2 : k ≤ n
    · by_cases h3 : 0 ≤ f
      · by_cases h4 : f ≤ n - k
        · have e : hasB n f k = true := by unfold hasB; simp; omega
          rw [e]
          clear e
          go_enter Try.func53, Try.ntmps53
          go_wp2
          go_ret
          exact ⟨rfl, rfl⟩
        · have e : hasB n f k = false := by unfold hasB; simp; omega
          rw [e]
          have h4' : ¬ (f ≤ (n : Int) - k) := h4
          clear e
          go_enter Try.func53, Try.ntmps53
          go_wp2
          go_ret
          exact ⟨rfl, rfl⟩
      · have e : hasB n f k = false := by unfold hasB; simp; omega
        rw [e]
        clear e
        go_enter Try.func53, Try.ntmps53
        go_wp2
        go_ret
        exact ⟨rfl, rfl⟩
    · have e : hasB n f k = false := by unfold hasB; simp; omega
      rw [e]
      clear e
      go_enter Try.func53, Try.ntmps53
      go_wp2
      go_ret
      exact ⟨rfl, rfl⟩
  · have e : hasB n f k = false := by unfold hasB; simp; omega
    rw [e]
    clear e
    go_enter Try.func53, Try.ntmps53
    go_wp2
    go_ret
    exact ⟨rfl, rfl⟩
end Go.Proofs.Ytjiienoflgolpaa
