import Derived.Test.YtpkpdfljhpieaaaBa
import Derived.Test.YtpkpdfljhpieaaaBm
namespace Go.Proofs.Ytpkpdfljhpieaaa
open Go.RowKit
set_option linter.unusedSimpArgs false
set_option linter.unusedVariables false
attribute [local go_sem] ob_alloc ob_drew ob_drewN ob_setCell ob_setBlock objSet_cells obMap_map obClock_map isMapI_map keyI_mk findI_nil findI_cons lookRes_some lookRes_none lookRes_some' lookRes_none' setBlock_alloc mapPut

theorem P2_nat (k : Nat) : P2 k = ((2 ^ k : Nat) : Int) := by unfold P2; simp
theorem fit64 {x : Nat} (h : x < 2 ^ 64) : (x : Int) ≤ 18446744073709551615 := by
  have : (2 : Nat) ^ 64 = 18446744073709551616 := by decide
  omega

theorem get_num (x : Nat) (hx : x < 2 ^ 64) (f m : Int) (hm : 1 ≤ m) (hm2 : m ≤ 64) : bits .and .u64 ((x : Int) / 2 ^ f.toNat) (P2 m.toNat - 1) = (getN x f.toNat m.toNat : Int) := by
  rw [getN_eq]
  have h1 := fit64 hx
  have hdiv : (x : Int) / 2 ^ f.toNat = ((x / 2 ^ f.toNat : Nat) : Int) := by simp
  have h2 : x / 2 ^ f.toNat ≤ x := Nat.div_le_self _ _
  have hP := P2_le' (show m.toNat ≤ 64 by omega)
  have hp := P2_pos m.toNat
  rw [hdiv]
  generalize x / 2 ^ f.toNat = q at *
  rw [u64_and _ _ (by omega) (by omega) (by omega) (by omega)]
  have h3 : (P2 m.toNat - 1).toNat = 2 ^ m.toNat - 1 := by rw [P2_nat]; omega
  rw [h3, Int.toNat_natCast, Nat.and_two_pow_sub_one_eq_mod]

set_option maxRecDepth 100000 in
set_option maxHeartbeats 400000 in
theorem get_no (x : Value) (f m : Int) (h : okF f m = false) (w : World) :
    Calls Try.prog 14 #[x, .int .i64 f, .int .i64 m] w fun e w' => e = .returned (.tuple #[.int .u64 0, .bool false]) ∧ w = w' := by
  go_enter Try.func14, Try.ntmps14
  go_wp2_with (go_at_call 38; refine (mask_no f m h _).mono ?_; rintro e w' ⟨rfl, rfl⟩)
  go_ret2
  exact ⟨rfl, rfl⟩

set_option maxRecDepth 100000 in
set_option maxHeartbeats 400000 in
theorem get_yes (x : Nat) (hx : x < 2 ^ 64) (f m : Int) (h : okF f m = true) (w : World) :
    Calls Try.prog 14 #[.int .u64 x, .int .i64 f, .int .i64 m] w fun e w' => e = .returned (.tuple #[.int .u64 (getN x f.toNat m.toNat), .bool true]) ∧ w = w' := by
  have h' := (okF_iff f m).1 h
  obtain ⟨h1, h2, h3, h4, h5⟩ := h'
  have hn := Lib.hid (get_num x hx f m h3 h4)
  go_enter Try.func14, Try.ntmps14
  go_wp2_with (go_at_call 38; refine (mask_yes f m h _).mono ?_; rintro e w' ⟨rfl, rfl⟩)
  go_ret2
  exact ⟨by rw [← hn.out]; rfl, rfl⟩

set_option maxRecDepth 100000 in
set_option maxHeartbeats 400000 in
theorem put_no1 (x : Value) (b f m : Int) (h : okF f m = false) (w : World) :
    Calls Try.prog 16 #[x, .int .u64 b, .int .i64 f, .int .i64 m] w fun e w' => e = .returned (.tuple #[.int .u64 0, .bool false]) ∧ w = w' := by
  go_enter Try.func16, Try.ntmps16
  go_wp2_with (go_at_call 38; refine (mask_no f m h _).mono ?_; rintro e w' ⟨rfl, rfl⟩)
  go_ret2
  exact ⟨rfl, rfl⟩

theorem not_num (b : Nat) (hb : b < 2 ^ 64) (m : Int) (hm : 1 ≤ m) (hm2 : m ≤ 64) : bits .andNot .u64 (b : Int) (P2 m.toNat - 1) = ((b &&& (2 ^ 64 - 1 - (2 ^ m.toNat - 1)) : Nat) : Int) := by
  have h1 := fit64 hb
  have hP := P2_le' (show m.toNat ≤ 64 by omega)
  have hp := P2_pos m.toNat
  rw [u64_andNot _ _ (by omega) (by omega) (by omega) (by omega)]
  have h3 : (P2 m.toNat - 1).toNat = 2 ^ m.toNat - 1 := by rw [P2_nat]; omega
  rw [h3, Int.toNat_natCast]
theorem not_zero (b : Nat) (hb : b < 2 ^ 64) (m : Int) (hm : 1 ≤ m) (hm2 : m ≤ 64) : (bits .andNot .u64 (b : Int) (P2 m.toNat - 1) != 0) = !decide (b < 2 ^ m.toNat) := by
  rw [not_num b hb m hm hm2]
  have := andNot_zero b m.toNat hb (by omega)
  by_cases h : b < 2 ^ m.toNat
  · rw [this.2 h]; simp [h]
  · have h2 : b &&& (2 ^ 64 - 1 - (2 ^ m.toNat - 1)) ≠ 0 := fun e => h (this.1 e)
    generalize b &&& (2 ^ 64 - 1 - (2 ^ m.toNat - 1)) = q at *
    simp [h, h2]

set_option maxRecDepth 100000 in
set_option maxHeartbeats 400000 in
theorem put_no2 (x : Value) (b : Nat) (hb : b < 2 ^ 64) (f m : Int) (h : okF f m = true) (hbig : ¬ b < 2 ^ m.toNat) (w : World) :
    Calls Try.prog 16 #[x, .int .u64 b, .int .i64 f, .int .i64 m] w fun e w' => e = .returned (.tuple #[.int .u64 0, .bool false]) ∧ w = w' := by
  have h' := (okF_iff f m).1 h
  obtain ⟨h1, h2, h3, h4, h5⟩ := h'
  have hz : (bits .andNot .u64 (b : Int) (P2 m.toNat - 1) != 0) = true := by rw [not_zero b hb m h3 h4]; simpa using hbig
  clear hbig
  go_enter Try.func16, Try.ntmps16
  go_wp2_with (go_at_call 38; refine (mask_yes f m h _).mono ?_; rintro e w' ⟨rfl, rfl⟩)
  go_ret2
  exact ⟨rfl, rfl⟩

theorem shl_lt {a k f : Nat} (h : a < 2 ^ k) (hf : f + k ≤ 64) : a * 2 ^ f < 2 ^ 64 := by
  have h1 : a * 2 ^ f < 2 ^ k * 2 ^ f := Nat.mul_lt_mul_of_pos_right h (Nat.two_pow_pos f)
  rw [← Nat.pow_add] at h1
  exact Nat.lt_of_lt_of_le h1 (Nat.pow_le_pow_right (by omega) (by omega))
theorem put_num (x b : Nat) (hx : x < 2 ^ 64) (f m : Int) (hf : 0 ≤ f) (hm : 1 ≤ m) (hfm : f + m ≤ 64) (hb : b < 2 ^ m.toNat) :
    bits .or .u64 (bits .andNot .u64 (x : Int) (IntKind.u64.wrap ((P2 m.toNat - 1) * 2 ^ f.toNat))) (IntKind.u64.wrap ((b : Int) * 2 ^ f.toNat)) = (putN x b f.toNat m.toNat : Int) := by
  have hsum : f.toNat + m.toNat ≤ 64 := by omega
  have hp := P2_pos m.toNat
  have e1 : (P2 m.toNat - 1) * 2 ^ f.toNat = (((2 ^ m.toNat - 1) * 2 ^ f.toNat : Nat) : Int) := by
    have h3 : P2 m.toNat - 1 = ((2 ^ m.toNat - 1 : Nat) : Int) := by rw [P2_nat]; have := Nat.two_pow_pos m.toNat; omega
    rw [h3]; simp
  have e2 : (b : Int) * 2 ^ f.toNat = ((b * 2 ^ f.toNat : Nat) : Int) := by simp
  have l1 : (2 ^ m.toNat - 1) * 2 ^ f.toNat < 2 ^ 64 := shl_lt (k := m.toNat) (by have := Nat.two_pow_pos m.toNat; omega) hsum
  have l2 : b * 2 ^ f.toNat < 2 ^ 64 := shl_lt hb hsum
  have eq := putN_eq x b f.toNat m.toNat hx hb hsum
  have g1 := fit64 l1
  have g2 := fit64 l2
  have g3 := fit64 hx
  rw [e1, e2, u64_fit (by omega) g1, u64_fit (by omega) g2, ← eq]
  rw [u64_andNot _ _ (by omega) (by omega) (by omega) (by omega)]
  have l3 : x &&& (2 ^ 64 - 1 - (2 ^ m.toNat - 1) * 2 ^ f.toNat) ≤ x := Nat.and_le_left
  simp only [Int.toNat_natCast]
  generalize hq1 : (2 ^ m.toNat - 1) * 2 ^ f.toNat = q1 at *
  generalize b * 2 ^ f.toNat = q2 at *
  have e3 : (18446744073709551615 - q1) = 2 ^ 64 - 1 - q1 := rfl
  rw [e3]
  rw [u64_or _ _ (by omega) (by omega) (by omega) (by omega)]
  simp only [Int.toNat_natCast]

set_option maxRecDepth 100000 in
set_option maxHeartbeats 400000 in
theorem put_yes (x b : Nat) (hx : x < 2 ^ 64) (f m : Int) (h : okF f m = true) (hb : b < 2 ^ m.toNat) (w : World) :
    Calls Try.prog 16 #[.int .u64 x, .int .u64 b, .int .i64 f, .int .i64 m] w fun e w' => e = .returned (.tuple #[.int .u64 (putN x b f.toNat m.toNat), .bool true]) ∧ Keep [] w w' := by
  have h' := (okF_iff f m).1 h
  obtain ⟨h1, h2, h3, h4, h5⟩ := h'
  have hb64 : b < 2 ^ 64 := Nat.lt_of_lt_of_le hb (Nat.pow_le_pow_right (by omega) (by omega))
  have hz : (bits .andNot .u64 (b : Int) (P2 m.toNat - 1) != 0) = false := by rw [not_zero b hb64 m h3 h4]; simpa using hb
  have HB := Lib.hid hb; clear hb
  go_enter Try.func16, Try.ntmps16
  go_wp2_with (go_at_call 38; refine (mask_yes f m h _).mono ?_; rintro e w' ⟨rfl, rfl⟩)
  go_region
  all_goals go_wp2
  all_goals
    go_ret2
    exact ⟨by rw [← put_num x b hx f m h1 h3 h5 HB.out]; rfl, by repeat (first | exact Keep.refl _ _ | refine Keep.drew ?_ | refine Keep.drewN ?_ _ | refine Keep.setCell ?_ (by first | (left; simp; done) | (right; simp; done) | (right; omega) | (right; simp; omega)) _ _ | refine Keep.setBlock ?_ (by first | (left; simp; done) | (right; simp; done) | (right; omega) | (right; simp; omega)) _ | refine Keep.alloc ?_ _ | refine Keep.andThen ?_ (by assumption) (by first | (simp; done) | (simp; omega) | (intro x hx; simp at hx; simp; omega)))⟩
end Go.Proofs.Ytpkpdfljhpieaaa
