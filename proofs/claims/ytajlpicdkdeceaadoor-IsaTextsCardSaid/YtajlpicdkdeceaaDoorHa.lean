import Derived.Test.YtajlpicdkdeceaaDoorJb
import Derived.Test.YtajlpicdkdeceaaDoorHm
namespace Go.Proofs.YtajlpicdkdeceaaDoor
open Go.RowKit
set_option linter.unusedSimpArgs false
set_option linter.unusedVariables false
attribute [local go_sem] ob_alloc ob_drew ob_drewN ob_setCell ob_setBlock objSet_cells obMap_map obClock_map isMapI_map keyI_mk findI_nil findI_cons lookRes_some lookRes_none lookRes_some' lookRes_none' setBlock_alloc mapPut

def P2 (k : Nat) : Int := 2 ^ k

theorem P2_succ (k : Nat) : P2 (k + 1) = P2 k * 2 := by unfold P2; rw [Int.pow_succ]

theorem P2_pos (k : Nat) : 1 ≤ P2 k := by
  induction k with
  | zero => decide
  | succ n ih => rw [P2_succ]; omega

theorem P2_mono {a b : Nat} (h : a ≤ b) : P2 a ≤ P2 b := by
  induction h with
  | refl => exact Int.le_refl _
  | step _ ih => rw [P2_succ]; have := P2_pos a; omega

theorem P2_63 : P2 63 = 9223372036854775808 := by decide

theorem P2_le {k : Nat} (h : k ≤ 63) : P2 k ≤ 9223372036854775808 := by rw [← P2_63]; exact P2_mono h

theorem u64_fit {x : Int} (h : 0 ≤ x) (h2 : x ≤ 18446744073709551615) : IntKind.u64.wrap x = x := by
  unfold IntKind.wrap; simp [IntKind.bits, IntKind.signed]; omega

theorem P2_64 : P2 64 = 18446744073709551616 := by decide

theorem P2_le' {k : Nat} (h : k ≤ 64) : P2 k ≤ 18446744073709551616 := by rw [← P2_64]; exact P2_mono h

theorem P2_wrap {k : Nat} (h : k < 63) : IntKind.u64.wrap (P2 k * 2) = P2 (k + 1) := by
  rw [← P2_succ]
  have := P2_le (show k + 1 ≤ 63 by omega)
  have := P2_pos (k + 1)
  exact u64_fit (by omega) (by omega)

def okF (f m : Int) : Bool := decide (0 ≤ f ∧ f ≤ 63 ∧ 1 ≤ m ∧ m ≤ 64 ∧ f + m ≤ 64)

theorem okF_iff (f m : Int) : okF f m = true ↔ 0 ≤ f ∧ f ≤ 63 ∧ 1 ≤ m ∧ m ≤ 64 ∧ f + m ≤ 64 := by unfold okF; simp

set_option maxRecDepth 100000 in
set_option maxHeartbeats 400000 in
theorem within_any (n a b : Int) (w : World) :
    Calls Tryd.prog 63 #[.int .i64 n, .int .i64 a, .int .i64 b] w fun e w' => e = .returned (.bool (decide (a ≤ n ∧ n ≤ b))) ∧ w = w' := by
  go_enter Tryd.func63, Tryd.ntmps63
  go_wp2
  all_goals
    go_ret
    refine ⟨ret_b ?_, rfl⟩
    simp
    try omega

theorem mask_num (m : Int) (h3 : 1 ≤ m) (h4 : m ≤ 64) : (18446744073709551615 : Int) / 2 ^ (64 - m).toNat = P2 m.toNat - 1 := by
  have key : ∀ j : Fin 65, (18446744073709551615 : Int) / 2 ^ (64 - j.val) = P2 j.val - 1 := by decide
  have := key ⟨m.toNat, by omega⟩
  rw [show (64 - m).toNat = 64 - m.toNat by omega]
  exact this

set_option maxRecDepth 100000 in
set_option maxHeartbeats 400000 in
theorem mask_yes (f m : Int) (h : okF f m = true) (w : World) :
    Calls Tryd.prog 49 #[.int .i64 f, .int .i64 m] w fun e w' => e = .returned (.tuple #[.int .u64 (P2 m.toNat - 1), .bool true]) ∧ w = w' := by
  rw [okF_iff] at h
  obtain ⟨h1, h2, h3, h4, h5⟩ := h
  have h6 : m ≤ 64 - f := by omega
  have h7 : decide (m ≤ 64 - f) = true := by simpa using h6
  clear h5
  go_enter Tryd.func49, Tryd.ntmps49
  go_wp2
  go_ret2
  exact ⟨by rw [← mask_num m h3 h4]; rfl, rfl⟩


theorem P2_nat (k : Nat) : P2 k = ((2 ^ k : Nat) : Int) := by unfold P2; simp

theorem fit64 {x : Nat} (h : x < 2 ^ 64) : (x : Int) ≤ 18446744073709551615 := by
  have : (2 : Nat) ^ 64 = 18446744073709551616 := by decide
  omega

theorem get_num (x : Nat) (hx : x < 2 ^ 64) (f m : Int) (hm : 1 ≤ m) (hm2 : m ≤ 64) : bits .and .u64 ((x : Int) / 2 ^ f.toNat) (P2 m.toNat - 1) = (getN x f.toNat m.toNat : Int) := by
  rw [getN_eq]
  have h1 := fit64 hx
  have hdiv : (x : Int) / 2 ^ f.toNat = ((x / 2 ^ f.toNat : Nat) : Int) := by simp
  have h2 : x / 2 ^ f.toNat ≤ x := Nat.div_le_self _ _
  have hP := P2_le' (show m.toNat ≤ 64 by omega)
  have hp := P2_pos m.toNat
  rw [hdiv]
  generalize x / 2 ^ f.toNat = q at *
  rw [u64_and _ _ (by omega) (by omega) (by omega) (by omega)]
  have h3 : (P2 m.toNat - 1).toNat = 2 ^ m.toNat - 1 := by rw [P2_nat]; omega
  rw [h3, Int.toNat_natCast, Nat.and_two_pow_sub_one_eq_mod]

set_option maxRecDepth 100000 in
set_option maxHeartbeats 400000 in
theorem get_yes (x : Nat) (hx : x < 2 ^ 64) (f m : Int) (h : okF f m = true) (w : World) :
    Calls Tryd.prog 35 #[.int .u64 x, .int .i64 f, .int .i64 m] w fun e w' => e = .returned (.tuple #[.int .u64 (getN x f.toNat m.toNat), .bool true]) ∧ w = w' := by
  have h' := (okF_iff f m).1 h
  obtain ⟨h1, h2, h3, h4, h5⟩ := h'
  have hn := Lib.hid (get_num x hx f m h3 h4)
  go_enter Tryd.func35, Tryd.ntmps35
  go_wp2_with (go_at_call 49; refine (mask_yes f m h _).mono ?_; rintro e w' ⟨rfl, rfl⟩)
  go_ret2
  exact ⟨by rw [← hn.out]; rfl, rfl⟩

theorem not_num (b : Nat) (hb : b < 2 ^ 64) (m : Int) (hm : 1 ≤ m) (hm2 : m ≤ 64) : bits .andNot .u64 (b : Int) (P2 m.toNat - 1) = ((b &&& (2 ^ 64 - 1 - (2 ^ m.toNat - 1)) : Nat) : Int) := by
  have h1 := fit64 hb
  have hP := P2_le' (show m.toNat ≤ 64 by omega)
  have hp := P2_pos m.toNat
  rw [u64_andNot _ _ (by omega) (by omega) (by omega) (by omega)]
  have h3 : (P2 m.toNat - 1).toNat = 2 ^ m.toNat - 1 := by rw [P2_nat]; omega
  rw [h3, Int.toNat_natCast]

theorem not_zero (b : Nat) (hb : b < 2 ^ 64) (m : Int) (hm : 1 ≤ m) (hm2 : m ≤ 64) : (bits .andNot .u64 (b : Int) (P2 m.toNat - 1) != 0) = !decide (b < 2 ^ m.toNat) := by
  rw [not_num b hb m hm hm2]
  have := andNot_zero b m.toNat hb (by omega)
  by_cases h : b < 2 ^ m.toNat
  · rw [this.2 h]; simp [h]
  · have h2 : b &&& (2 ^ 64 - 1 - (2 ^ m.toNat - 1)) ≠ 0 := fun e => h (this.1 e)
    generalize b &&& (2 ^ 64 - 1 - (2 ^ m.toNat - 1)) = q at *
    simp [h, h2]

theorem shl_lt {a k f : Nat} (h : a < 2 ^ k) (hf : f + k ≤ 64) : a * 2 ^ f < 2 ^ 64 := by
  have h1 : a * 2 ^ f < 2 ^ k * 2 ^ f := Nat.mul_lt_mul_of_pos_right h (Nat.two_pow_pos f)
  rw [← Nat.pow_add] at h1
  exact Nat.lt_of_lt_of_le h1 (Nat.pow_le_pow_right (by omega) (by omega))

theorem put_num (x b : Nat) (hx : x < 2 ^ 64) (f m : Int) (hf : 0 ≤ f) (hm : 1 ≤ m) (hfm : f + m ≤ 64) (hb : b < 2 ^ m.toNat) :
    bits .or .u64 (bits .andNot .u64 (x : Int) (IntKind.u64.wrap ((P2 m.toNat - 1) * 2 ^ f.toNat))) (IntKind.u64.wrap ((b : Int) * 2 ^ f.toNat)) = (putN x b f.toNat m.toNat : Int) := by
  have hsum : f.toNat + m.toNat ≤ 64 := by omega
  have hp := P2_pos m.toNat
  have e1 : (P2 m.toNat - 1) * 2 ^ f.toNat = (((2 ^ m.toNat - 1) * 2 ^ f.toNat : Nat) : Int) := by
    have h3 : P2 m.toNat - 1 = ((2 ^ m.toNat - 1 : Nat) : Int) := by rw [P2_nat]; have := Nat.two_pow_pos m.toNat; omega
    rw [h3]; simp
  have e2 : (b : Int) * 2 ^ f.toNat = ((b * 2 ^ f.toNat : Nat) : Int) := by simp
  have l1 : (2 ^ m.toNat - 1) * 2 ^ f.toNat < 2 ^ 64 := shl_lt (k := m.toNat) (by have := Nat.two_pow_pos m.toNat; omega) hsum
  have l2 : b * 2 ^ f.toNat < 2 ^ 64 := shl_lt hb hsum
  have eq := putN_eq x b f.toNat m.toNat hx hb hsum
  have g1 := fit64 l1
  have g2 := fit64 l2
  have g3 := fit64 hx
  rw [e1, e2, u64_fit (by omega) g1, u64_fit (by omega) g2, ← eq]
  rw [u64_andNot _ _ (by omega) (by omega) (by omega) (by omega)]
  have l3 : x &&& (2 ^ 64 - 1 - (2 ^ m.toNat - 1) * 2 ^ f.toNat) ≤ x := Nat.and_le_left
  simp only [Int.toNat_natCast]
  generalize hq1 : (2 ^ m.toNat - 1) * 2 ^ f.toNat = q1 at *
  generalize b * 2 ^ f.toNat = q2 at *
  have e3 : (18446744073709551615 - q1) = 2 ^ 64 - 1 - q1 := rfl
  rw [e3]
  rw [u64_or _ _ (by omega) (by omega) (by omega) (by omega)]
  simp only [Int.toNat_natCast]

set_option maxRecDepth 100000 in
set_option maxHeartbeats 400000 in
theorem put_yes (x b : Nat) (hx : x < 2 ^ 64) (f m : Int) (h : okF f m = true) (hb : b < 2 ^ m.toNat) (w : World) :
    Calls Tryd.prog 34 #[.int .u64 x, .int .u64 b, .int .i64 f, .int .i64 m] w fun e w' => e = .returned (.tuple #[.int .u64 (putN x b f.toNat m.toNat), .bool true]) ∧ Keep [] w w' := by
  have h' := (okF_iff f m).1 h
  obtain ⟨h1, h2, h3, h4, h5⟩ := h'
  have hb64 : b < 2 ^ 64 := Nat.lt_of_lt_of_le hb (Nat.pow_le_pow_right (by omega) (by omega))
  have hz : (bits .andNot .u64 (b : Int) (P2 m.toNat - 1) != 0) = false := by rw [not_zero b hb64 m h3 h4]; simpa using hb
  have HB := Lib.hid hb; clear hb
  go_enter Tryd.func34, Tryd.ntmps34
  go_wp2_with (go_at_call 49; refine (mask_yes f m h _).mono ?_; rintro e w' ⟨rfl, rfl⟩)
  go_region
  all_goals go_wp2
  all_goals
    go_ret2
    exact ⟨by rw [← put_num x b hx f m h1 h3 h5 HB.out]; rfl, by repeat (first | exact Keep.refl _ _ | refine Keep.drew ?_ | refine Keep.drewN ?_ _ | refine Keep.setCell ?_ (by first | (left; simp; done) | (right; simp; done) | (right; omega) | (right; simp; omega)) _ _ | refine Keep.setBlock ?_ (by first | (left; simp; done) | (right; simp; done) | (right; omega) | (right; simp; omega)) _ | refine Keep.alloc ?_ _ | refine Keep.andThen ?_ (by assumption) (by first | (simp; done) | (simp; omega) | (intro x hx; simp at hx; simp; omega)))⟩

end Go.Proofs.YtajlpicdkdeceaaDoor
