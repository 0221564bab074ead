import Derived.Test.YtpkpdfljhpieaaaBc
import Derived.Lib.ItoaNum
namespace Go.Proofs.Ytpkpdfljhpieaaa
open Go.RowKit
set_option linter.unusedSimpArgs false
set_option linter.unusedVariables false
attribute [local go_sem] ob_alloc ob_drew ob_drewN ob_setCell ob_setBlock objSet_cells obMap_map obClock_map isMapI_map keyI_mk findI_nil findI_cons lookRes_some lookRes_none lookRes_some' lookRes_none' setBlock_alloc mapPut

/-- the least power of two's exponent that is not below -/
def LG (n : Int) : Nat := if n < 2 then 0 else Lib.bitLen (n - 1).toNat

theorem LG_hi (n : Int) (hn : n ≤ 9223372036854775807) : n ≤ P2 (LG n) := by
  unfold LG
  split
  · rename_i h
    show n ≤ P2 0
    simp [P2]; omega
  · rename_i h
    have := Lib.bitLenAux_bounds 64 (n - 1).toNat (by omega) (by omega)
    unfold Lib.bitLen
    rw [P2_nat]
    omega
theorem LG_lo (n : Int) (hn : n ≤ 9223372036854775807) (k : Nat) (hk : k < LG n) : P2 k < n := by
  unfold LG at hk
  split at hk
  · omega
  · rename_i h
    have hb := Lib.bitLenAux_bounds 64 (n - 1).toNat (by omega) (by omega)
    unfold Lib.bitLen at hk
    have : P2 k ≤ P2 (Lib.bitLenAux 64 (n - 1).toNat - 1) := P2_mono (by omega)
    rw [P2_nat (Lib.bitLenAux 64 (n - 1).toNat - 1)] at this
    omega
theorem LG_le (n : Int) (hn : n ≤ 9223372036854775807) : LG n ≤ 63 := by
  rcases Nat.lt_or_ge 63 (LG n) with h | h
  · have := LG_lo n hn 63 h
    rw [P2_63] at this
    omega
  · exact h

set_option maxRecDepth 100000 in
set_option maxHeartbeats 400000 in
theorem log_any (n : Int) (h1 : -9223372036854775808 ≤ n) (h2 : n ≤ 9223372036854775807) (w : World) :
    Calls Try.prog 18 #[.int .i64 n] w fun e w' => e = .returned (.int .i64 (LG n)) ∧ w = w' := by
  by_cases h : n < 2
  · have hl : LG n = 0 := by unfold LG; rw [if_pos h]
    have HL := Lib.hid hl; clear hl
    go_enter Try.func18, Try.ntmps18
    go_wp2
    go_ret
    exact ⟨by rw [HL.out]; rfl, rfl⟩
  · have hl : LG n = Lib.bitLen (n - 1).toNat := by unfold LG; rw [if_neg h]
    have HL := Lib.hid hl; clear hl
    have e1 : IntKind.u64.wrap n = n := u64_fit (by omega) (by omega)
    go_enter Try.func18, Try.ntmps18
    go_wp2_with fail
    refine (Try.bits_Len64 _ _ (by omega) (by omega)).mono ?_
    rintro e w' ⟨rfl, hw⟩
    go_wp2
    go_ret
    refine ⟨ret_i ?_, rfl⟩
    rw [HL.out, show (n - 1).toNat = n.toNat - 1 by omega]

set_option maxRecDepth 100000 in
set_option maxHeartbeats 400000 in
theorem refLog_any (n : Int) (h1 : -9223372036854775808 ≤ n) (h2 : n ≤ 9223372036854775807) (w : World) :
    Calls Try.prog 21 #[.int .i64 n] w fun e w' => e = .returned (.int .i64 (LG n)) ∧ w = w' := by
  have hle := LG_le n h2
  have HH := Lib.hid (LG_hi n h2)
  have HL := Lib.hid (LG_lo n h2)
  go_enter Try.func21, Try.ntmps21
  go_wp2
  go_loop [3] (fun i => ∃ k : Nat, k ≤ LG n ∧ i = .int .i64 k) (fun i => (63 - intOf i).toNat)
  case atStart => exact ⟨0, by omega, rfl⟩
  case round =>
    obtain ⟨k, hk, rfl⟩ := hrel
    by_cases hlt : (k : Int) < 63
    · have hm : 0 ≤ max n 0 ∧ max n 0 ≤ 9223372036854775807 := by omega
      have hp := P2_pos k
      by_cases hq : k = LG n
      · have hge : max n 0 ≤ P2 k := by rw [hq]; have := HH.out; have := P2_pos (LG n); omega
        have HQ := Lib.hid hq; clear hq
        go_wp2_with (go_at_call 40; refine (power_any _ (by omega) (by omega) _).mono ?_; rintro e w' ⟨rfl, rfl⟩)
        go_ret
        exact ⟨by rw [← HQ.out]; rfl, rfl⟩
      · have hgt := HL.out k (by omega)
        have hgt2 : P2 k < max n 0 := by omega
        go_wp2_with (go_at_call 40; refine (power_any _ (by omega) (by omega) _).mono ?_; rintro e w' ⟨rfl, rfl⟩)
        go_round
        case rel => exact ⟨k + 1, by omega, by go_num⟩
        case measure => simp [intOf]; omega
    · have hq : k = LG n := by omega
      have hk63 : (63 : Int) = (LG n : Int) := by omega
      have HQ := Lib.hid hk63; clear hk63
      clear hq
      go_wp2
      go_ret
      exact ⟨ret_i HQ.out, rfl⟩

/-! ### how many bits -/
theorem and_one (x : Nat) (hx : x < 2 ^ 64) (k : Nat) : bits .and .u64 ((x : Int) / 2 ^ k) 1 = (((x.testBit k).toNat : Nat) : Int) := by
  have e : (x : Int) / 2 ^ k = ((x / 2 ^ k : Nat) : Int) := by simp
  have h1 := fit64 hx
  have h2 : x / 2 ^ k ≤ x := Nat.div_le_self _ _
  rw [← bit_num, e]
  generalize x / 2 ^ k = q at *
  rw [and_one_u64 _ (by omega) (by omega)]
  omega

set_option maxRecDepth 100000 in
set_option maxHeartbeats 400000 in
theorem count_any (x : Nat) (hx : x < 2 ^ 64) (w : World) :
    Calls Try.prog 20 #[.int .u64 x] w fun e w' => e = .returned (.int .i64 (cntB x 64)) ∧ w = w' := by
  go_enter Try.func20, Try.ntmps20
  go_wp2
  go_loop [3, 4, 5] (fun n _ i => ∃ k : Nat, k ≤ 64 ∧ i = .int .i64 k ∧ n = .int .i64 (cntB x k)) (fun _ _ i => (64 - intOf i).toNat)
  case atStart => exact ⟨0, by omega, rfl, rfl⟩
  case round =>
    obtain ⟨k, hk, rfl, rfl⟩ := hrel
    by_cases hlt : (k : Int) < 64
    · have hc := cntB_le x k
      have ha := and_one x hx k
      have hb : ((x.testBit k).toNat : Int) ≤ 1 := by cases x.testBit k <;> simp
      have hb0 : 0 ≤ ((x.testBit k).toNat : Int) := by omega
      generalize hz : ((x.testBit k).toNat : Int) = z at ha hb hb0
      have HZ := Lib.hid hz; clear hz
      go_wp2
      go_round
      case rel => exact ⟨k + 1, by omega, by go_num, by simp only [cntB]; rw [← HZ.out]; go_num⟩
      case measure => simp [intOf]; omega
    · go_wp2
      go_ret
      have : k = 64 := by omega
      subst this
      exact ⟨rfl, rfl⟩

set_option maxRecDepth 100000 in
set_option maxHeartbeats 400000 in
theorem refCount_any (x : Nat) (hx : x < 2 ^ 64) (w : World) :
    Calls Try.prog 23 #[.int .u64 x] w fun e w' => e = .returned (.int .i64 (cntB x 64)) ∧ w = w' := by
  go_enter Try.func23, Try.ntmps23
  go_wp2
  go_loop [3, 4] (fun n i => ∃ k : Nat, k ≤ 64 ∧ i = .int .i64 k ∧ n = .int .i64 (cntB x k)) (fun _ i => (64 - intOf i).toNat)
  case atStart => exact ⟨0, by omega, rfl, rfl⟩
  case round =>
    obtain ⟨k, hk, rfl, rfl⟩ := hrel
    by_cases hlt : (k : Int) < 64
    · have hc := cntB_le x k
      have hp2 := P2_pos k
      have hz2 : (P2 k == 0) = false := by simp; omega
      have ha := div_bit x hx k
      have hb : ((x.testBit k).toNat : Int) ≤ 1 := by cases x.testBit k <;> simp
      have hb0 : 0 ≤ ((x.testBit k).toNat : Int) := by omega
      generalize hz : ((x.testBit k).toNat : Int) = z at ha hb hb0
      have HZ := Lib.hid hz; clear hz
      go_wp2_with (go_at_call 40; refine (power_any _ (by omega) (by omega) _).mono ?_; rintro e w' ⟨rfl, rfl⟩)
      go_round
      case rel => exact ⟨k + 1, by omega, by go_num, by simp only [cntB]; rw [← HZ.out]; go_num⟩
      case measure => simp [intOf]; omega
    · go_wp2
      go_ret
      have : k = 64 := by omega
      subst this
      exact ⟨rfl, rfl⟩

/-! ### align -/
def AL (n o : Int) : Int := if n < 0 ∨ o < 0 ∨ 30 < o then n else n / P2 o.toNat * P2 o.toNat

set_option maxRecDepth 100000 in
set_option maxHeartbeats 400000 in
theorem align_no (n o : Int) (h : n < 0 ∨ o < 0 ∨ 30 < o) (w : World) :
    Calls Try.prog 19 #[.int .i64 n, .int .i64 o] w fun e w' => e = .returned (.int .i64 n) ∧ w = w' := by
  by_cases h1 : n < 0
  · go_enter Try.func19, Try.ntmps19
    go_wp2
    go_ret
    exact ⟨rfl, rfl⟩
  · by_cases h2 : o < 0
    · go_enter Try.func19, Try.ntmps19
      go_wp2
      go_ret
      exact ⟨rfl, rfl⟩
    · have h3 : 30 < o := by omega
      have h4 : decide (o ≤ 30) = false := by simp; omega
      clear h
      go_enter Try.func19, Try.ntmps19
      go_wp2
      go_ret
      exact ⟨rfl, rfl⟩

theorem al_le (n o : Int) (h : 0 ≤ n) : 0 ≤ n / P2 o.toNat * P2 o.toNat ∧ n / P2 o.toNat * P2 o.toNat ≤ n := by
  have hp := P2_pos o.toNat
  constructor
  · exact Int.mul_nonneg (Int.ediv_nonneg h (by omega)) (by omega)
  · exact Int.ediv_mul_le n (by omega)

set_option maxRecDepth 100000 in
set_option maxHeartbeats 400000 in
theorem align_yes (n o : Int) (hn : 0 ≤ n) (hn2 : n ≤ 9223372036854775807) (h1 : 0 ≤ o) (h2 : o ≤ 30) (w : World) :
    Calls Try.prog 19 #[.int .i64 n, .int .i64 o] w fun e w' => e = .returned (.int .i64 (n / P2 o.toNat * P2 o.toNat)) ∧ w = w' := by
  have h4 : decide (o ≤ 30) = true := by simpa using h2
  have h5 : min o.toNat 64 = o.toNat := by omega
  have ha := al_le n o hn
  have hw : wrap64 (n / 2 ^ o.toNat * 2 ^ o.toNat) = n / P2 o.toNat * P2 o.toNat := by
    have : (2 : Int) ^ o.toNat = P2 o.toNat := rfl
    rw [this]
    exact IntWalk.wrap64_in _ (by omega)
  have HW := Lib.hid hw; clear hw ha
  go_enter Try.func19, Try.ntmps19
  go_wp2
  go_ret
  exact ⟨ret_i HW.out, rfl⟩

set_option maxRecDepth 100000 in
set_option maxHeartbeats 400000 in
theorem refAlign_no (n o : Int) (h : n < 0 ∨ o < 0 ∨ 30 < o) (w : World) :
    Calls Try.prog 22 #[.int .i64 n, .int .i64 o] w fun e w' => e = .returned (.int .i64 n) ∧ w = w' := by
  by_cases h1 : n < 0
  · go_enter Try.func22, Try.ntmps22
    go_wp2
    go_ret
    exact ⟨rfl, rfl⟩
  · by_cases h2 : o < 0
    · go_enter Try.func22, Try.ntmps22
      go_wp2
      go_ret
      exact ⟨rfl, rfl⟩
    · have h3 : 30 < o := by omega
      clear h
      go_enter Try.func22, Try.ntmps22
      go_wp2
      go_ret
      exact ⟨rfl, rfl⟩

set_option maxRecDepth 100000 in
set_option maxHeartbeats 400000 in
theorem refAlign_yes (n o : Int) (hn : 0 ≤ n) (hn2 : n ≤ 9223372036854775807) (h1 : 0 ≤ o) (h2 : o ≤ 30) (w : World) :
    Calls Try.prog 22 #[.int .i64 n, .int .i64 o] w fun e w' => e = .returned (.int .i64 (n / P2 o.toNat * P2 o.toNat)) ∧ Keep [] w w' := by
  have ha := al_le n o hn
  have hp := P2_pos o.toNat
  have hl : P2 o.toNat ≤ 1073741824 := P2_mono (show o.toNat ≤ 30 by omega)
  have hz : (P2 o.toNat == 0) = false := by simp; omega
  have hw1 : IntKind.i64.wrap (P2 o.toNat) = P2 o.toNat := IntWalk.i64_in _ (by omega)
  have hq : 0 ≤ n / P2 o.toNat := Int.ediv_nonneg hn (by omega)
  have hq2 : n / P2 o.toNat ≤ n := Int.ediv_le_self _ hn
  have hw2 : IntKind.i64.wrap (n / P2 o.toNat) = n / P2 o.toNat := IntWalk.i64_in _ (by omega)
  have hw3 : IntKind.i64.wrap (n / P2 o.toNat * P2 o.toNat) = n / P2 o.toNat * P2 o.toNat := IntWalk.i64_in _ (by omega)
  go_enter Try.func22, Try.ntmps22
  go_wp2
  go_quiet ((go_at_call 40; exact Calls.quiet_of_same (power_q _ _ (by omega) (by omega))))
  go_wp2
  go_ret
  exact ⟨rfl, by repeat (first | exact Keep.refl _ _ | refine Keep.drew ?_ | refine Keep.drewN ?_ _ | refine Keep.setCell ?_ (by first | (left; simp; done) | (right; simp; done) | (right; omega) | (right; simp; omega)) _ _ | refine Keep.setBlock ?_ (by first | (left; simp; done) | (right; simp; done) | (right; omega) | (right; simp; omega)) _ | refine Keep.alloc ?_ _ | refine Keep.andThen ?_ (by assumption) (by first | (simp; done) | (simp; omega) | (intro x hx; simp at hx; simp; omega)))⟩
end Go.Proofs.Ytpkpdfljhpieaaa
