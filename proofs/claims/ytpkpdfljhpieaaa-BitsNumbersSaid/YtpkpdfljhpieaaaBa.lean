import Derived.Test.YtpkpdfljhpieaaaRows
import Derived.Test.YtpkpdfljhpieaaaLib
import Derived.Test.YtpkpdfljhpieaaaShelf
namespace Go.Proofs.Ytpkpdfljhpieaaa
open Go.RowKit
set_option linter.unusedSimpArgs false
set_option linter.unusedVariables false
attribute [local go_sem] ob_alloc ob_drew ob_drewN ob_setCell ob_setBlock objSet_cells obMap_map obClock_map isMapI_map keyI_mk findI_nil findI_cons lookRes_some lookRes_none lookRes_some' lookRes_none' setBlock_alloc mapPut

/-- two to a power -/
def P2 (k : Nat) : Int := 2 ^ k
theorem P2_succ (k : Nat) : P2 (k + 1) = P2 k * 2 := by unfold P2; rw [Int.pow_succ]
theorem P2_pos (k : Nat) : 1 ≤ P2 k := by
  induction k with
  | zero => decide
  | succ n ih => rw [P2_succ]; omega
theorem P2_mono {a b : Nat} (h : a ≤ b) : P2 a ≤ P2 b := by
  induction h with
  | refl => exact Int.le_refl _
  | step _ ih => rw [P2_succ]; have := P2_pos a; omega
theorem P2_63 : P2 63 = 9223372036854775808 := by decide
theorem P2_le {k : Nat} (h : k ≤ 63) : P2 k ≤ 9223372036854775808 := by rw [← P2_63]; exact P2_mono h
theorem u64_fit {x : Int} (h : 0 ≤ x) (h2 : x ≤ 18446744073709551615) : IntKind.u64.wrap x = x := by
  unfold IntKind.wrap; simp [IntKind.bits, IntKind.signed]; omega
theorem P2_64 : P2 64 = 18446744073709551616 := by decide
theorem P2_le' {k : Nat} (h : k ≤ 64) : P2 k ≤ 18446744073709551616 := by rw [← P2_64]; exact P2_mono h
theorem P2_wrap {k : Nat} (h : k < 63) : IntKind.u64.wrap (P2 k * 2) = P2 (k + 1) := by
  rw [← P2_succ]
  have := P2_le (show k + 1 ≤ 63 by omega)
  have := P2_pos (k + 1)
  exact u64_fit (by omega) (by omega)

set_option maxRecDepth 100000 in
set_option maxHeartbeats 400000 in
theorem power_any (n : Int) (h0 : 0 ≤ n) (h63 : n ≤ 63) (w : World) :
    Calls Try.prog 40 #[.int .i64 n] w fun e w' => e = .returned (.int .u64 (P2 n.toNat)) ∧ w = w' := by
  go_enter Try.func40, Try.ntmps40
  go_wp2
  go_loop [3, 4] (fun p i => ∃ k : Nat, (k : Int) ≤ n ∧ i = .int .i64 k ∧ p = .int .u64 (P2 k)) (fun _ i => (n - intOf i).toNat)
  case atStart => exact ⟨0, by omega, rfl, rfl⟩
  case round =>
    obtain ⟨k, hk, rfl, rfl⟩ := hrel
    by_cases hlt : (k : Int) < n
    · go_wp2
      go_round
      case rel => exact ⟨k + 1, by omega, by go_num, by rw [← P2_wrap (by omega)]⟩
      case measure => simp [intOf]; omega
    · go_wp2
      go_ret
      have : k = n.toNat := by omega
      subst this
      exact ⟨rfl, rfl⟩

/-- is there such a field? -/
def okF (f m : Int) : Bool := decide (0 ≤ f ∧ f ≤ 63 ∧ 1 ≤ m ∧ m ≤ 64 ∧ f + m ≤ 64)
theorem okF_iff (f m : Int) : okF f m = true ↔ 0 ≤ f ∧ f ≤ 63 ∧ 1 ≤ m ∧ m ≤ 64 ∧ f + m ≤ 64 := by unfold okF; simp

set_option maxRecDepth 100000 in
set_option maxHeartbeats 400000 in
theorem field_any (f m : Int) (w : World) :
    Calls Try.prog 39 #[.int .i64 f, .int .i64 m] w fun e w' => e = .returned (.bool (okF f m)) ∧ w = w' := by
  go_enter Try.func39, Try.ntmps39
  go_wp2
  all_goals
    go_ret
    refine ⟨ret_b ?_, rfl⟩
    rw [Bool.eq_iff_iff, okF_iff]
    simp
    omega

theorem within_any (n a b : Int) (w : World) :
    Calls Try.prog 42 #[.int .i64 n, .int .i64 a, .int .i64 b] w fun e w' => e = .returned (.bool (decide (a ≤ n ∧ n ≤ b))) ∧ w = w' := by
  go_enter Try.func42, Try.ntmps42
  go_wp2
  all_goals
    go_ret
    refine ⟨ret_b ?_, rfl⟩
    simp
    try omega

set_option maxRecDepth 100000 in
set_option maxHeartbeats 400000 in
theorem mask_no (f m : Int) (h : okF f m = false) (w : World) :
    Calls Try.prog 38 #[.int .i64 f, .int .i64 m] w fun e w' => e = .returned (.tuple #[.int .u64 0, .bool false]) ∧ w = w' := by
  have hn : ¬ (0 ≤ f ∧ f ≤ 63 ∧ 1 ≤ m ∧ m ≤ 64 ∧ f + m ≤ 64) := by rw [← okF_iff, h]; simp
  clear h
  by_cases h1 : 0 ≤ f
  · by_cases h2 : f ≤ 63
    · have h3 : ¬ (1 ≤ m ∧ m ≤ 64 - f) := by omega
      by_cases h4 : 1 ≤ m
      · have h5 : ¬ m ≤ 64 - f := by omega
        have h6 : decide (m ≤ 64 - f) = false := by simpa using h5
        clear h3 hn
        go_enter Try.func38, Try.ntmps38
        go_wp2
        go_ret2
        exact ⟨rfl, rfl⟩
      · clear h3 hn
        go_enter Try.func38, Try.ntmps38
        go_wp2
        go_ret2
        exact ⟨rfl, rfl⟩
    · go_enter Try.func38, Try.ntmps38
      go_wp2
      go_ret2
      exact ⟨rfl, rfl⟩
  · go_enter Try.func38, Try.ntmps38
    go_wp2
    go_ret2
    exact ⟨rfl, rfl⟩

theorem mask_num (m : Int) (h3 : 1 ≤ m) (h4 : m ≤ 64) : (18446744073709551615 : Int) / 2 ^ (64 - m).toNat = P2 m.toNat - 1 := by
  have key : ∀ j : Fin 65, (18446744073709551615 : Int) / 2 ^ (64 - j.val) = P2 j.val - 1 := by decide
  have := key ⟨m.toNat, by omega⟩
  rw [show (64 - m).toNat = 64 - m.toNat by omega]
  exact this

set_option maxRecDepth 100000 in
set_option maxHeartbeats 400000 in
theorem mask_yes (f m : Int) (h : okF f m = true) (w : World) :
    Calls Try.prog 38 #[.int .i64 f, .int .i64 m] w fun e w' => e = .returned (.tuple #[.int .u64 (P2 m.toNat - 1), .bool true]) ∧ w = w' := by
  rw [okF_iff] at h
  obtain ⟨h1, h2, h3, h4, h5⟩ := h
  have h6 : m ≤ 64 - f := by omega
  have h7 : decide (m ≤ 64 - f) = true := by simpa using h6
  clear h5
  go_enter Try.func38, Try.ntmps38
  go_wp2
  go_ret2
  exact ⟨by rw [← mask_num m h3 h4]; rfl, rfl⟩
end Go.Proofs.Ytpkpdfljhpieaaa
