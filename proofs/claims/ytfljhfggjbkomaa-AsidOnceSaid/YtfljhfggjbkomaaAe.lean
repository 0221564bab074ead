import Derived.Test.YtfljhfggjbkomaaAd
namespace Go.Proofs.Ytfljhfggjbkomaa
open Go.RowKit
set_option linter.unusedSimpArgs false
set_option linter.unusedVariables false
attribute [local go_sem] ob_alloc ob_drew ob_drewN ob_setCell ob_setBlock objSet_cells obMap_map obClock_map isMapI_map keyI_mk findI_nil findI_cons lookRes_some lookRes_none lookRes_some' lookRes_none' setBlock_alloc mapPut
set_option maxRecDepth 100000 in
set_option maxHeartbeats 1000000 in
theorem eql93 (a0 a1 b0 b1 : Int) (w : World) :
    (binOp .eql 93 (.agg #[.int .i64 a0, .int .i64 a1]) (.agg #[.int .i64 b0, .int .i64 b1])).run Try.prog w = .ok (.bool (decide (a0 = b0 ∧ a1 = b1))) w := by
  go_simp
  simp [ite_okb]
set_option maxRecDepth 100000 in
set_option maxHeartbeats 1000000 in
theorem neq93 (a0 a1 b0 b1 : Int) (w : World) :
    (binOp .neq 93 (.agg #[.int .i64 a0, .int .i64 a1]) (.agg #[.int .i64 b0, .int .i64 b1])).run Try.prog w = .ok (.bool (!decide (a0 = b0 ∧ a1 = b1))) w := by
  go_simp
  simp [ite_okn]
set_option maxRecDepth 100000 in
set_option maxHeartbeats 1000000 in
theorem eql98 (a0 a1 b0 b1 : Int) (w : World) :
    (binOp .eql 98 (.agg #[.int .i64 a0, .int .i64 a1]) (.agg #[.int .i64 b0, .int .i64 b1])).run Try.prog w = .ok (.bool (decide (a0 = b0 ∧ a1 = b1))) w := by
  go_simp
  simp [ite_okb]
set_option maxRecDepth 100000 in
set_option maxHeartbeats 1000000 in
theorem neq98 (a0 a1 b0 b1 : Int) (w : World) :
    (binOp .neq 98 (.agg #[.int .i64 a0, .int .i64 a1]) (.agg #[.int .i64 b0, .int .i64 b1])).run Try.prog w = .ok (.bool (!decide (a0 = b0 ∧ a1 = b1))) w := by
  go_simp
  simp [ite_okn]
attribute [local go_sem ↓] eql93 neq93 eql98 neq98

def livesB (os : List Int) (bs : List Bool) (a u : Int) : Bool := match givenF os bs a with
  | some q => decide (q.2 = u)
  | none => false

/-! ### Lives -/
set_option maxRecDepth 100000 in
set_option maxHeartbeats 400000 in
theorem aLives (w : World) (p : Nat) (L : List Nat) (os : List Int) (bs : List Bool) (hP : PoolAt w p L os bs) (a u : Int) :
    Calls Try.prog 56 #[.pointer (some ⟨p, 0, none⟩), tagV (a, u)] w fun o w' => o = .returned (.bool (livesB os bs a u)) ∧ Keep [] w w' := by
  obtain ⟨g, m, l, hg, hm, gp, mp, gm, h4, h5, h6, h7, h8, h9⟩ := hP
  have cP := cell_of_ob h4
  have lP := ob_lt h4
  have k1 : Keep [] w (w.alloc (.cells #[.int .i64 a, .int .i64 u] 93)).drew := ((Keep.refl _ _).alloc _).drew
  have k2 : Keep [] w ((w.alloc (.cells #[.int .i64 a, .int .i64 u] 93)).alloc (.cells #[.int .i64 0, .int .i64 0] 93)).drew := (((Keep.refl _ _).alloc _).alloc _).drew
  have look1 := (h6.keep k1 (by simp)).look Try.underlying127 Try.underlying3 zeroTag a
  have look2 := (h6.keep k2 (by simp)).look Try.underlying127 Try.underlying3 zeroTag a
  rw [h7.look] at look1 look2
  unfold livesB
  have hgf : ∀ q, givenF os bs a = some q → q.1 = a := by
    intro q hq
    unfold givenF at hq
    split at hq
    · cases hq; rfl
    · cases hq
  cases hgv : givenF os bs a with
  | none =>
    rw [hgv] at look1 look2
    simp only [lookL, tagV] at look1 look2 ⊢
    clear h4 h5 h6 h7 hgf hgv k1 k2
    go_enter Try.func56, Try.ntmps56
    go_wp2
    go_region
    all_goals go_wp2
    all_goals
      go_ret
      exact ⟨rfl, by repeat (first | exact Keep.refl _ _ | refine Keep.drew ?_ | refine Keep.drewN ?_ _ | refine Keep.setCell ?_ (by first | (left; simp; done) | (right; simp; done) | (right; omega) | (right; simp; omega)) _ _ | refine Keep.setBlock ?_ (by first | (left; simp; done) | (right; simp; done) | (right; omega) | (right; simp; omega)) _ | refine Keep.alloc ?_ _ | refine Keep.andThen ?_ (by assumption) (by first | (simp; done) | (simp; omega) | (intro x hx; simp at hx; simp; omega)))⟩
  | some q =>
    obtain ⟨q1, q2⟩ := q
    have hq1 : q1 = a := hgf _ hgv
    subst hq1
    rw [hgv] at look1 look2
    simp only [lookL, tagV] at look1 look2 ⊢
    clear h4 h5 h6 h7 hgf hgv k1 k2
    go_enter Try.func56, Try.ntmps56
    go_wp2
    go_region
    all_goals go_wp2
    all_goals
      go_ret
      exact ⟨ret_b (by simp), by repeat (first | exact Keep.refl _ _ | refine Keep.drew ?_ | refine Keep.drewN ?_ _ | refine Keep.setCell ?_ (by first | (left; simp; done) | (right; simp; done) | (right; omega) | (right; simp; omega)) _ _ | refine Keep.setBlock ?_ (by first | (left; simp; done) | (right; simp; done) | (right; omega) | (right; simp; omega)) _ | refine Keep.alloc ?_ _ | refine Keep.andThen ?_ (by assumption) (by first | (simp; done) | (simp; omega) | (intro x hx; simp at hx; simp; omega)))⟩

set_option maxRecDepth 100000 in
set_option maxHeartbeats 400000 in
theorem rLives (w : World) (p : Nat) (L : List Nat) (os : List Int) (bs : List Bool) (hP : RPoolAt w p L os bs) (a u : Int) :
    Calls Try.prog 57 #[.pointer (some ⟨p, 0, none⟩), tagV (a, u)] w fun o w' => o = .returned (.bool (livesB os bs a u)) ∧ Keep [] w w' := by
  obtain ⟨g, m, hg, hm, gp, mp, gm, h4, h5, h6, h7, h8, h9⟩ := hP
  have cP := cell_of_ob h4
  have lP := ob_lt h4
  have lG := ob_lt h5
  have lM := ob_lt h6
  unfold tagV
  by_cases ha : 1 ≤ a ∧ a ≤ os.length
  · obtain ⟨k, rfl⟩ : ∃ k : Nat, a = k + 1 := ⟨(a - 1).toNat, by omega⟩
    have hk : k < os.length := by omega
    have cG : w.cell? ⟨g, k, none⟩ = some (.int .i64 (os.getD k 0)) := by rw [cell_of_ob h5]; exact i64s_get hk
    have cM : w.cell? ⟨m, k, none⟩ = some (.bool (bs.getD k false)) := by rw [cell_of_ob h6]; exact bools_get (by rw [← h7]; exact hk)
    have hlv : livesB os bs ((k : Int) + 1) u = (bs.getD k false && decide (os.getD k 0 = u)) := by
      unfold livesB givenF
      rw [show ((k : Int) + 1 - 1).toNat = k by omega]
      cases hb : bs.getD k false
      · simp
      · simp [show (1 : Int) ≤ k + 1 by omega]
    rw [hlv]
    have g1 : ((1 : Int) ≤ (k : Int) + 1) = True := by simp; omega
    have g2 : ((k : Int) + 1 ≤ (os.length : Int)) = True := by simp; omega
    generalize os.getD k 0 = x at cG
    generalize os.length = n at *
    cases hb : bs.getD k false
    · rw [hb] at cM
      clear hlv h4 h5 h6 h7 hb ha
      go_enter Try.func57, Try.ntmps57
      go_wp2
      go_quiet (fail)
      go_wp2
      go_ret
      exact ⟨ret_b (by simp), by repeat (first | exact Keep.refl _ _ | refine Keep.drew ?_ | refine Keep.drewN ?_ _ | refine Keep.setCell ?_ (by first | (left; simp; done) | (right; simp; done) | (right; omega) | (right; simp; omega)) _ _ | refine Keep.setBlock ?_ (by first | (left; simp; done) | (right; simp; done) | (right; omega) | (right; simp; omega)) _ | refine Keep.alloc ?_ _ | refine Keep.andThen ?_ (by assumption) (by first | (simp; done) | (simp; omega) | (intro x hx; simp at hx; simp; omega)))⟩
    · rw [hb] at cM
      clear hlv h4 h5 h6 h7 hb ha
      go_enter Try.func57, Try.ntmps57
      go_wp2
      go_quiet (fail)
      go_wp2
      go_ret
      exact ⟨ret_b (by by_cases h : x = u <;> simp [h]), by repeat (first | exact Keep.refl _ _ | refine Keep.drew ?_ | refine Keep.drewN ?_ _ | refine Keep.setCell ?_ (by first | (left; simp; done) | (right; simp; done) | (right; omega) | (right; simp; omega)) _ _ | refine Keep.setBlock ?_ (by first | (left; simp; done) | (right; simp; done) | (right; omega) | (right; simp; omega)) _ | refine Keep.alloc ?_ _ | refine Keep.andThen ?_ (by assumption) (by first | (simp; done) | (simp; omega) | (intro x hx; simp at hx; simp; omega)))⟩
  · have hlv : livesB os bs a u = false := by
      unfold livesB givenF
      rw [if_neg]
      rintro ⟨h1, h2⟩
      rw [List.getD, List.getElem?_eq_none (by omega)] at h2
      cases h2
    rw [hlv]
    generalize os.length = n at *
    by_cases h1 : 1 ≤ a
    · have h2 : (n : Int) < a := by omega
      have g1 : ((1 : Int) ≤ a) = True := by simp [h1]
      have g2 : (a ≤ (n : Int)) = False := by simp; omega
      clear hlv h4 h5 h6 h7 ha
      go_enter Try.func57, Try.ntmps57
      go_wp2
      go_quiet (fail)
      go_wp2
      go_ret
      exact ⟨ret_b (by simp; try omega), by repeat (first | exact Keep.refl _ _ | refine Keep.drew ?_ | refine Keep.drewN ?_ _ | refine Keep.setCell ?_ (by first | (left; simp; done) | (right; simp; done) | (right; omega) | (right; simp; omega)) _ _ | refine Keep.setBlock ?_ (by first | (left; simp; done) | (right; simp; done) | (right; omega) | (right; simp; omega)) _ | refine Keep.alloc ?_ _ | refine Keep.andThen ?_ (by assumption) (by first | (simp; done) | (simp; omega) | (intro x hx; simp at hx; simp; omega)))⟩
    · have g1 : ((1 : Int) ≤ a) = False := by simp; omega
      clear hlv h4 h5 h6 h7 ha
      go_enter Try.func57, Try.ntmps57
      go_wp2
      go_quiet (fail)
      go_wp2
      go_ret
      exact ⟨ret_b (by simp; try omega), by repeat (first | exact Keep.refl _ _ | refine Keep.drew ?_ | refine Keep.drewN ?_ _ | refine Keep.setCell ?_ (by first | (left; simp; done) | (right; simp; done) | (right; omega) | (right; simp; omega)) _ _ | refine Keep.setBlock ?_ (by first | (left; simp; done) | (right; simp; done) | (right; omega) | (right; simp; omega)) _ | refine Keep.alloc ?_ _ | refine Keep.andThen ?_ (by assumption) (by first | (simp; done) | (simp; omega) | (intro x hx; simp at hx; simp; omega)))⟩
end Go.Proofs.Ytfljhfggjbkomaa
