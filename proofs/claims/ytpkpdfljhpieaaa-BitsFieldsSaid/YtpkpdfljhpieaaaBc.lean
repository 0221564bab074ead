import Derived.Test.YtpkpdfljhpieaaaBb
namespace Go.Proofs.Ytpkpdfljhpieaaa
open Go.RowKit
set_option linter.unusedSimpArgs false
set_option linter.unusedVariables false
attribute [local go_sem] ob_alloc ob_drew ob_drewN ob_setCell ob_setBlock objSet_cells obMap_map obClock_map isMapI_map keyI_mk findI_nil findI_cons lookRes_some lookRes_none lookRes_some' lookRes_none' setBlock_alloc mapPut

theorem bit_int (x : Nat) (hx : x < 2 ^ 64) (k : Nat) : (x : Int) / P2 k % 2 = (((x.testBit k).toNat : Nat) : Int) := by
  rw [P2_nat, ← bit_num]; simp

theorem sum_step (g : Nat → Bool) (k : Nat) (hk : k < 64) : IntKind.u64.wrap ((sumB g k : Int) + IntKind.u64.wrap (((g k).toNat : Int) * P2 k)) = (sumB g (k + 1) : Int) := by
  have h := sumB_lt g (k + 1)
  have h2 : sumB g (k + 1) < 2 ^ 64 := Nat.lt_of_lt_of_le h (Nat.pow_le_pow_right (by omega) (by omega))
  have h3 := fit64 h2
  have e : ((g k).toNat : Int) * P2 k = (((g k).toNat * 2 ^ k : Nat) : Int) := by rw [P2_nat]; simp
  have e2 : sumB g (k + 1) = sumB g k + (g k).toNat * 2 ^ k := rfl
  rw [e]
  rw [e2] at h3 ⊢
  generalize (g k).toNat * 2 ^ k = q at *
  have e3 : IntKind.u64.wrap (q : Int) = q := u64_fit (by omega) (by omega)
  rw [e3, u64_fit (by omega) (by omega)]
  omega

theorem div_bit (x : Nat) (hx : x < 2 ^ 64) (j : Nat) : (IntKind.u64.wrap ((x : Int) / P2 j)).tmod 2 = (((x.testBit j).toNat : Nat) : Int) := by
  have h1 := fit64 hx
  rw [P2_nat, ← bit_num]
  have e : (x : Int) / ((2 ^ j : Nat) : Int) = ((x / 2 ^ j : Nat) : Int) := by simp
  have h2 : x / 2 ^ j ≤ x := Nat.div_le_self _ _
  rw [e]
  generalize x / 2 ^ j = q at *
  rw [u64_fit (by omega) (by omega)]
  rw [Int.tmod_eq_emod_of_nonneg (by omega)]
  omega

theorem power_q (n : Int) (w : World) (h0 : 0 ≤ n) (h63 : n ≤ 63) : Calls Try.prog 40 #[.int .i64 n] w fun e w' => e = .returned (.int .u64 (P2 n.toNat)) ∧ w' = w :=
  (power_any n h0 h63 w).mono fun _ _ h => ⟨h.1, h.2.symm⟩

set_option maxRecDepth 100000 in
set_option maxHeartbeats 400000 in
theorem refGet_no (x : Value) (f m : Int) (h : okF f m = false) (w : World) :
    Calls Try.prog 15 #[x, .int .i64 f, .int .i64 m] w fun e w' => e = .returned (.tuple #[.int .u64 0, .bool false]) ∧ w = w' := by
  go_enter Try.func15, Try.ntmps15
  go_wp2_with (go_at_call 39; refine (field_any f m _).mono ?_; rintro e w' ⟨rfl, rfl⟩)
  go_ret2
  exact ⟨rfl, rfl⟩

set_option maxRecDepth 100000 in
set_option maxHeartbeats 400000 in
theorem refGet_yes (x : Nat) (hx : x < 2 ^ 64) (f m : Int) (h : okF f m = true) (w : World) :
    Calls Try.prog 15 #[.int .u64 x, .int .i64 f, .int .i64 m] w fun e w' => e = .returned (.tuple #[.int .u64 (getN x f.toNat m.toNat), .bool true]) ∧ Keep [] w w' := by
  have h' := (okF_iff f m).1 h
  obtain ⟨h1, h2, h3, h4, h5⟩ := h'
  go_enter Try.func15, Try.ntmps15
  go_wp2_with (go_at_call 39; refine (field_any f m _).mono ?_; rintro e w' ⟨rfl, rfl⟩)
  go_loopw [8, 9] (fun n i wr => ∃ k : Nat, (k : Int) ≤ m ∧ i = .int .i64 k ∧ n = .int .u64 (sumB (fun i => x.testBit (f.toNat + i)) k : Nat) ∧ Keep [] w wr) (fun _ i _ => (m - intOf i).toNat)
  case atStart => exact ⟨0, by omega, rfl, rfl, Keep.refl _ _⟩
  case round =>
    obtain ⟨k, hk, rfl, rfl, hkp⟩ := hrel
    by_cases hlt : (k : Int) < m
    · go_wp2
      have hs1 : IntKind.i64.wrap (f + ↑k) = f + ↑k := IntWalk.i64_in _ (by omega)
      have hp1 := P2_pos (f + ↑k).toNat
      have hp2 := P2_pos k
      have hz1 : (P2 (f + ↑k).toNat == 0) = false := by simp; omega
      have hz2 : P2 (f + ↑k).toNat ≠ 0 := by omega
      go_quiet ((go_at_call 40; exact Calls.quiet_of_same (power_q _ _ (by omega) (by omega))))
      go_wp2
      go_roundw
      case rel => exact ⟨k + 1, by omega, by go_num, by rw [show (f + (k : Int)).toNat = f.toNat + k by omega, div_bit x hx, sum_step (fun i => x.testBit (f.toNat + i)) k (by omega)], by repeat (first | exact Keep.refl _ _ | refine Keep.drew ?_ | refine Keep.drewN ?_ _ | refine Keep.setCell ?_ (by first | (left; simp; done) | (right; simp; done) | (right; omega) | (right; simp; omega)) _ _ | refine Keep.setBlock ?_ (by first | (left; simp; done) | (right; simp; done) | (right; omega) | (right; simp; omega)) _ | refine Keep.alloc ?_ _ | refine Keep.andThen ?_ (by assumption) (by first | (simp; done) | (simp; omega) | (intro x hx; simp at hx; simp; omega)))⟩
      case measure => simp [intOf]; omega
    · go_wp2
      go_ret2
      have : k = m.toNat := by omega
      subst this
      exact ⟨rfl, hkp⟩

/-- what bit i is of a word with another field there -/
def pickB (x b f m i : Nat) : Bool := if f ≤ i ∧ i < f + m then b.testBit (i - f) else x.testBit i

set_option maxRecDepth 100000 in
set_option maxHeartbeats 400000 in
theorem refPut_no (x : Value) (b f m : Int) (h : okF f m = false) (w : World) :
    Calls Try.prog 17 #[x, .int .u64 b, .int .i64 f, .int .i64 m] w fun e w' => e = .returned (.tuple #[.int .u64 0, .bool false]) ∧ w = w' := by
  go_enter Try.func17, Try.ntmps17
  go_wp2_with (go_at_call 39; refine (field_any f m _).mono ?_; rintro e w' ⟨rfl, rfl⟩)
  go_ret2
  exact ⟨rfl, rfl⟩

theorem lt_P2 {b : Nat} {m : Int} (h : b < 2 ^ m.toNat) : (b : Int) < P2 m.toNat := by rw [P2_nat]; omega
theorem ge_P2 {b : Nat} {m : Int} (h : ¬ b < 2 ^ m.toNat) : P2 m.toNat ≤ (b : Int) := by rw [P2_nat]; omega

set_option maxRecDepth 100000 in
set_option maxHeartbeats 400000 in
theorem refPut_no2 (x : Value) (b : Nat) (hb : b < 2 ^ 64) (f m : Int) (h : okF f m = true) (hbig : ¬ b < 2 ^ m.toNat) (w : World) :
    Calls Try.prog 17 #[x, .int .u64 b, .int .i64 f, .int .i64 m] w fun e w' => e = .returned (.tuple #[.int .u64 0, .bool false]) ∧ w = w' := by
  have h' := (okF_iff f m).1 h
  obtain ⟨h1, h2, h3, h4, h5⟩ := h'
  have h6 : m < 64 := by
    rcases Int.lt_or_le m 64 with h6 | h6
    · exact h6
    · have : m = 64 := by omega
      subst this
      exact absurd hb hbig
  have h7 := ge_P2 hbig
  clear hbig
  go_enter Try.func17, Try.ntmps17
  go_wp2_with (first | (go_at_call 39; refine (field_any f m _).mono ?_; rintro e w' ⟨rfl, rfl⟩) | (go_at_call 40; refine (power_any m (by omega) (by omega) _).mono ?_; rintro e w' ⟨rfl, rfl⟩))
  go_ret2
  exact ⟨rfl, rfl⟩

set_option maxRecDepth 100000 in
set_option maxHeartbeats 1600000 in
theorem refPut_yes (x b : Nat) (hx : x < 2 ^ 64) (hb64 : b < 2 ^ 64) (f m : Int) (h : okF f m = true) (hb : b < 2 ^ m.toNat) (w : World) :
    Calls Try.prog 17 #[.int .u64 x, .int .u64 b, .int .i64 f, .int .i64 m] w fun e w' => e = .returned (.tuple #[.int .u64 (putN x b f.toNat m.toNat), .bool true]) ∧ Keep [] w w' := by
  have h' := (okF_iff f m).1 h
  obtain ⟨h1, h2, h3, h4, h5⟩ := h'
  have h7 := lt_P2 hb
  have hbits : putN x b f.toNat m.toNat = sumB (pickB x b f.toNat m.toNat) 64 := rfl
  have HB := Lib.hid hbits; clear hbits hb
  have hpw := P2_pos m.toNat
  by_cases h6 : m < 64
  all_goals
    go_enter Try.func17, Try.ntmps17
    go_wp2_with (first | (go_at_call 39; refine (field_any f m _).mono ?_; rintro e w' ⟨rfl, rfl⟩) | (go_at_call 40; refine (power_any m (by omega) (by omega) _).mono ?_; rintro e w' ⟨rfl, rfl⟩))
    go_loop [10, 11, 12] (fun n i _ => ∃ k : Nat, k ≤ 64 ∧ i = .int .i64 k ∧ n = .int .u64 (sumB (pickB x b f.toNat m.toNat) k : Nat)) (fun _ i _ => (64 - intOf i).toNat)
    case atStart => exact ⟨0, by omega, rfl, rfl⟩
    case round =>
      obtain ⟨k, hk, rfl, rfl⟩ := hrel
      have hp2 := P2_pos k
      have hz2 : (P2 k == 0) = false := by simp; omega
      have hp3 := P2_pos ((k : Int) - f).toNat
      have hz3 : (P2 ((k : Int) - f).toNat == 0) = false := by simp; omega
      by_cases hlt : (k : Int) < 64
      · by_cases hi1 : f ≤ (k : Int)
        · by_cases hi2 : (k : Int) < f + m
          · have hv : pickB x b f.toNat m.toNat k = b.testBit ((k : Int) - f).toNat := by
              unfold pickB; rw [if_pos (by omega), show ((k : Int) - f).toNat = k - f.toNat by omega]
            have HV := Lib.hid hv; clear hv
            go_wp2_with (go_at_call 40; refine (power_any _ (by omega) (by omega) _).mono ?_; rintro e w' ⟨rfl, rfl⟩)
            go_round
            case rel => exact ⟨k + 1, by omega, by go_num, by rw [div_bit b hb64, ← HV.out, sum_step (pickB x b f.toNat m.toNat) k (by omega)]⟩
            case measure => simp [intOf]; omega
          · have hv : pickB x b f.toNat m.toNat k = x.testBit k := by
              unfold pickB; rw [if_neg (by omega)]
            have HV := Lib.hid hv; clear hv
            try (exfalso; omega)
            all_goals
              go_wp2_with (go_at_call 40; refine (power_any _ (by omega) (by omega) _).mono ?_; rintro e w' ⟨rfl, rfl⟩)
              go_round
              case rel => exact ⟨k + 1, by omega, by go_num, by rw [div_bit x hx, ← HV.out, sum_step (pickB x b f.toNat m.toNat) k (by omega)]⟩
              case measure => simp [intOf]; omega
        · have hv : pickB x b f.toNat m.toNat k = x.testBit k := by
            unfold pickB; rw [if_neg (by omega)]
          have HV := Lib.hid hv; clear hv
          try (exfalso; omega)
          all_goals
            go_wp2_with (go_at_call 40; refine (power_any _ (by omega) (by omega) _).mono ?_; rintro e w' ⟨rfl, rfl⟩)
            go_round
            case rel => exact ⟨k + 1, by omega, by go_num, by rw [div_bit x hx, ← HV.out, sum_step (pickB x b f.toNat m.toNat) k (by omega)]⟩
            case measure => simp [intOf]; omega
      · go_wp2
        go_ret2
        have : k = 64 := by omega
        subst this
        exact ⟨by rw [HB.out]; rfl, Keep.refl _ _⟩
end Go.Proofs.Ytpkpdfljhpieaaa
