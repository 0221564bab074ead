import Derived.Test.YtehmjjfgefopdaaLibW
import Derived.Test.YtehmjjfgefopdaaRows
import Derived.Laws.BitsAllLaws
namespace Go.Proofs.Ytehmjjfgefopdaa
open Go.RowKit
set_option linter.unusedSimpArgs false
set_option linter.unusedVariables false
attribute [local go_sem] ob_alloc ob_drew ob_drewN ob_setCell ob_setBlock objSet_cells obMap_map obClock_map isMapI_map keyI_mk findI_nil findI_cons lookRes_some lookRes_none lookRes_some' lookRes_none' setBlock_alloc mapPut



/-- the number whose bits are g's, below n -/
def sumB (g : Nat → Bool) : Nat → Nat
  | 0 => 0
  | n + 1 => sumB g n + (g n).toNat * 2 ^ n
theorem sumB_lt (g : Nat → Bool) (n : Nat) : sumB g n < 2 ^ n := by
  induction n with
  | zero => simp [sumB]
  | succ n ih =>
    simp only [sumB, Nat.pow_succ]
    cases g n <;> simp <;> omega
theorem sumB_bit (g : Nat → Bool) (n j : Nat) : (sumB g n).testBit j = (decide (j < n) && g j) := by
  induction n with
  | zero => simp [sumB]
  | succ n ih =>
    have hl := sumB_lt g n
    simp only [sumB]
    cases hg : g n with
    | false =>
      simp only [Bool.toNat_false, Nat.zero_mul, Nat.add_zero, ih]
      by_cases h : j = n
      · subst h; simp [hg]
      · have : (j < n + 1) ↔ j < n := by omega
        simp [this]
    | true =>
      simp only [Bool.toNat_true, Nat.one_mul, Nat.add_comm (sumB g n)]
      by_cases h : j = n
      · subst h
        rw [Nat.testBit_two_pow_add_eq, ih]
        simp [hg]
      · by_cases h2 : j < n
        · rw [Nat.testBit_two_pow_add_gt h2, ih]
          simp [h2, Nat.lt_succ_of_lt h2]
        · have h3 : n < j := by omega
          have h4 : ¬ j < n + 1 := by omega
          simp only [h4, decide_false, Bool.false_and]
          apply Nat.testBit_lt_two_pow
          calc 2 ^ n + sumB g n < 2 ^ n + 2 ^ n := by omega
            _ = 2 ^ (n + 1) := by rw [Nat.pow_succ]; omega
            _ ≤ 2 ^ j := Nat.pow_le_pow_right (by omega) (by omega)

def getN (x f m : Nat) : Nat := sumB (fun i => x.testBit (f + i)) m
def putN (x b f m : Nat) : Nat := sumB (fun i => if f ≤ i ∧ i < f + m then b.testBit (i - f) else x.testBit i) 64

theorem getN_eq (x f m : Nat) : getN x f m = x / 2 ^ f % 2 ^ m := by
  apply Nat.eq_of_testBit_eq
  intro j
  rw [getN, sumB_bit, Nat.testBit_mod_two_pow, Nat.testBit_div_two_pow, Nat.add_comm]

theorem putN_lt (x b f m : Nat) : putN x b f m < 2 ^ 64 := sumB_lt _ _

theorem bit_ge {x n j : Nat} (h : x < 2 ^ n) (hj : n ≤ j) : x.testBit j = false :=
  Nat.testBit_lt_two_pow (Nat.lt_of_lt_of_le h (Nat.pow_le_pow_right (by omega) hj))

/-- the program's Put -/
theorem putN_eq (x b f m : Nat) (hx : x < 2 ^ 64) (hb : b < 2 ^ m) (hf : f + m ≤ 64) :
    (x &&& (2 ^ 64 - 1 - (2 ^ m - 1) * 2 ^ f)) ||| (b * 2 ^ f) = putN x b f m := by
  apply Nat.eq_of_testBit_eq
  intro j
  have hc : 2 ^ 64 - 1 - (2 ^ m - 1) * 2 ^ f = sumB (fun i => !decide (f ≤ i ∧ i < f + m)) 64 := by
    have h1 : (2 ^ m - 1) * 2 ^ f = sumB (fun i => decide (f ≤ i ∧ i < f + m)) 64 := by
      apply Nat.eq_of_testBit_eq
      intro j
      rw [sumB_bit, ← Nat.shiftLeft_eq, Nat.testBit_shiftLeft, Nat.testBit_two_pow_sub_one, Bool.eq_iff_iff]
      simp
      omega
    have h2 : ∀ (g : Nat → Bool) (n : Nat), sumB (fun i => !g i) n = 2 ^ n - 1 - sumB g n := by
      intro g n
      induction n with
      | zero => rfl
      | succ n ih =>
        have := sumB_lt g n
        simp only [sumB, ih, Nat.pow_succ]
        cases g n <;> simp <;> omega
    rw [h1, h2]
  rw [hc, Nat.testBit_or, Nat.testBit_and, sumB_bit, putN, sumB_bit, ← Nat.shiftLeft_eq, Nat.testBit_shiftLeft]
  by_cases h64 : j < 64
  · by_cases h1 : f ≤ j ∧ j < f + m
    · simp [h64, h1]
    · by_cases h2 : f ≤ j
      · have : b.testBit (j - f) = false := bit_ge hb (by omega)
        simp [h64, h1, this]
      · simp [h64, h1, h2]
  · have h3 : x.testBit j = false := bit_ge hx (by omega)
    have h4 : f ≤ j → b.testBit (j - f) = false := fun _ => bit_ge hb (by omega)
    simp [h64, h3]
    exact h4

theorem bit_num (x i : Nat) : x / 2 ^ i % 2 = (x.testBit i).toNat := by
  rw [Nat.testBit_eq_decide_div_mod_eq]
  have : x / 2 ^ i % 2 = 0 ∨ x / 2 ^ i % 2 = 1 := by omega
  rcases this with h | h <;> simp [h]

theorem notmask (m : Nat) (hm : m ≤ 64) : 2 ^ 64 - 1 - (2 ^ m - 1) = sumB (fun i => !decide (i < m)) 64 := by
  have h1 : 2 ^ m - 1 = sumB (fun i => decide (i < m)) 64 := by
    apply Nat.eq_of_testBit_eq
    intro j
    rw [sumB_bit, Nat.testBit_two_pow_sub_one, Bool.eq_iff_iff]
    simp
    omega
  have h2 : ∀ (g : Nat → Bool) (n : Nat), sumB (fun i => !g i) n = 2 ^ n - 1 - sumB g n := by
    intro g n
    induction n with
    | zero => rfl
    | succ n ih =>
      have := sumB_lt g n
      simp only [sumB, ih, Nat.pow_succ]
      cases g n <;> simp <;> omega
  rw [h1, h2]
theorem andNot_zero (b m : Nat) (hb : b < 2 ^ 64) (hm : m ≤ 64) : b &&& (2 ^ 64 - 1 - (2 ^ m - 1)) = 0 ↔ b < 2 ^ m := by
  rw [notmask m hm]
  constructor
  · intro h
    have hz : ∀ j, m ≤ j → b.testBit j = false := by
      intro j hj
      by_cases h64 : j < 64
      · have := congrArg (fun z => z.testBit j) h
        simp only [Nat.testBit_and, sumB_bit, Nat.zero_testBit, h64, decide_true, Bool.true_and, show ¬ j < m by omega, decide_false, Bool.not_false, Bool.and_true] at this
        exact this
      · exact bit_ge hb (by omega)
    have : b = b % 2 ^ m := by
      apply Nat.eq_of_testBit_eq
      intro j
      rw [Nat.testBit_mod_two_pow]
      by_cases hj : j < m
      · simp [hj]
      · simp [hj, hz j (by omega)]
    rw [this]
    exact Nat.mod_lt _ (Nat.two_pow_pos m)
  · intro h
    apply Nat.eq_of_testBit_eq
    intro j
    rw [Nat.testBit_and, sumB_bit, Nat.zero_testBit]
    by_cases hj : j < m
    · simp [hj]
    · simp [bit_ge h (by omega : m ≤ j)]

/-! ### the laws -/
theorem get_put (x y f m : Nat) (hy : y < 2 ^ m) (hf : f + m ≤ 64) : getN (putN x y f m) f m = y := by
  apply Nat.eq_of_testBit_eq
  intro j
  rw [getN, sumB_bit, putN, sumB_bit]
  by_cases h : j < m
  · have h1 : f + j < 64 := by omega
    have h2 : f + j < f + m := by omega
    simp [h, h1]
  · simp [h, bit_ge hy (by omega : m ≤ j)]
theorem put_back (x y f m : Nat) (hx : x < 2 ^ 64) : putN (putN x y f m) (getN x f m) f m = x := by
  apply Nat.eq_of_testBit_eq
  intro j
  rw [putN, sumB_bit]
  by_cases h : j < 64
  · by_cases h1 : f ≤ j ∧ j < f + m
    · simp only [h, h1, getN, sumB_bit, decide_true, Bool.true_and, and_self, if_true]
      rw [show f + (j - f) = j by omega]
      have : j - f < m := by omega
      simp [this]
    · simp only [h, h1, decide_true, Bool.true_and, if_false, putN, sumB_bit]
  · simp [h, bit_ge hx (by omega : 64 ≤ j)]
theorem get_apart (x y f m g n : Nat) (hfm : f + m ≤ 64) (h : g + n ≤ f ∨ f + m ≤ g) : getN (putN x y g n) f m = getN x f m := by
  apply Nat.eq_of_testBit_eq
  intro j
  rw [getN, getN, sumB_bit, sumB_bit]
  by_cases hj : j < m
  · have h1 : f + j < 64 := by omega
    have h2 : ¬ (g ≤ f + j ∧ f + j < g + n) := by omega
    simp [hj, putN, sumB_bit, h1, h2]
  · simp [hj]
theorem whole (x c : Nat) (hx : x < 2 ^ 64) (hc : c ≤ 64) : putN (putN 0 (getN x 0 c) 0 c) (getN x c (64 - c)) c (64 - c) = x := by
  apply Nat.eq_of_testBit_eq
  intro j
  rw [putN, sumB_bit]
  by_cases h : j < 64
  · by_cases h1 : c ≤ j
    · have h2 : j < c + (64 - c) := by omega
      have h3 : j - c < 64 - c := by omega
      simp only [h, h1, h2, getN, sumB_bit, decide_true, Bool.true_and, and_self, if_true, h3]
      rw [show c + (j - c) = j by omega]
    · have h2 : j < c := by omega
      simp [h, h1, putN, sumB_bit, getN, h2]
  · simp [h, bit_ge hx (by omega : 64 ≤ j)]

/-- how many bits are 1, below n -/
def cntB (x : Nat) : Nat → Nat
  | 0 => 0
  | n + 1 => cntB x n + (x.testBit n).toNat
theorem cntB_le (x n : Nat) : cntB x n ≤ n := by
  induction n with
  | zero => simp [cntB]
  | succ n ih => simp only [cntB]; cases x.testBit n <;> simp <;> omega
theorem cntB_high {x m n : Nat} (h : x < 2 ^ m) : ∀ d, n = m + d → cntB x n = cntB x m
  | 0, e => by subst e; rfl
  | d + 1, e => by
    subst e
    rw [← Nat.add_assoc]
    simp only [cntB, bit_ge h (by omega : m ≤ m + d), Bool.toNat_false, Nat.add_zero]
    exact cntB_high h d rfl
theorem cntB_get (x f : Nat) : ∀ m n, m ≤ n → cntB (getN x f n) m + cntB x f = cntB x (f + m)
  | 0, _, _ => by simp [cntB]
  | m + 1, n, h => by
    rw [← Nat.add_assoc]
    simp only [cntB]
    have ih := cntB_get x f m n (by omega)
    have : (getN x f n).testBit m = x.testBit (f + m) := by
      rw [getN, sumB_bit]; simp [show m < n by omega]
    rw [this]; omega
theorem cnt_whole (x c : Nat) (hc : c ≤ 64) : cntB (getN x 0 c) 64 + cntB (getN x c (64 - c)) 64 = cntB x 64 := by
  have h1 : cntB (getN x 0 c) 64 = cntB (getN x 0 c) c := cntB_high (sumB_lt _ _) (64 - c) (by omega)
  have h2 : cntB (getN x c (64 - c)) 64 = cntB (getN x c (64 - c)) (64 - c) := cntB_high (sumB_lt _ _) c (by omega)
  have h3 := cntB_get x 0 c c (Nat.le_refl _)
  have h4 := cntB_get x c (64 - c) (64 - c) (Nat.le_refl _)
  rw [show c + (64 - c) = 64 by omega] at h4
  simp only [cntB, Nat.zero_add, Nat.add_zero] at h3
  omega


def P2 (k : Nat) : Int := 2 ^ k

theorem P2_succ (k : Nat) : P2 (k + 1) = P2 k * 2 := by unfold P2; rw [Int.pow_succ]

theorem P2_pos (k : Nat) : 1 ≤ P2 k := by
  induction k with
  | zero => decide
  | succ n ih => rw [P2_succ]; omega

theorem P2_mono {a b : Nat} (h : a ≤ b) : P2 a ≤ P2 b := by
  induction h with
  | refl => exact Int.le_refl _
  | step _ ih => rw [P2_succ]; have := P2_pos a; omega

theorem P2_63 : P2 63 = 9223372036854775808 := by decide

theorem P2_le {k : Nat} (h : k ≤ 63) : P2 k ≤ 9223372036854775808 := by rw [← P2_63]; exact P2_mono h

theorem u64_fit {x : Int} (h : 0 ≤ x) (h2 : x ≤ 18446744073709551615) : IntKind.u64.wrap x = x := by
  unfold IntKind.wrap; simp [IntKind.bits, IntKind.signed]; omega

theorem P2_64 : P2 64 = 18446744073709551616 := by decide

theorem P2_le' {k : Nat} (h : k ≤ 64) : P2 k ≤ 18446744073709551616 := by rw [← P2_64]; exact P2_mono h

theorem P2_wrap {k : Nat} (h : k < 63) : IntKind.u64.wrap (P2 k * 2) = P2 (k + 1) := by
  rw [← P2_succ]
  have := P2_le (show k + 1 ≤ 63 by omega)
  have := P2_pos (k + 1)
  exact u64_fit (by omega) (by omega)

def okF (f m : Int) : Bool := decide (0 ≤ f ∧ f ≤ 63 ∧ 1 ≤ m ∧ m ≤ 64 ∧ f + m ≤ 64)

theorem okF_iff (f m : Int) : okF f m = true ↔ 0 ≤ f ∧ f ≤ 63 ∧ 1 ≤ m ∧ m ≤ 64 ∧ f + m ≤ 64 := by unfold okF; simp

set_option maxRecDepth 100000 in
set_option maxHeartbeats 400000 in
theorem within_any (n a b : Int) (w : World) :
    Calls Try.prog 74 #[.int .i64 n, .int .i64 a, .int .i64 b] w fun e w' => e = .returned (.bool (decide (a ≤ n ∧ n ≤ b))) ∧ w = w' := by
  go_enter Try.func74, Try.ntmps74
  go_wp2
  all_goals
    go_ret
    refine ⟨ret_b ?_, rfl⟩
    simp
    try omega

theorem mask_num (m : Int) (h3 : 1 ≤ m) (h4 : m ≤ 64) : (18446744073709551615 : Int) / 2 ^ (64 - m).toNat = P2 m.toNat - 1 := by
  have key : ∀ j : Fin 65, (18446744073709551615 : Int) / 2 ^ (64 - j.val) = P2 j.val - 1 := by decide
  have := key ⟨m.toNat, by omega⟩
  rw [show (64 - m).toNat = 64 - m.toNat by omega]
  exact this

set_option maxRecDepth 100000 in
set_option maxHeartbeats 400000 in
theorem mask_yes (f m : Int) (h : okF f m = true) (w : World) :
    Calls Try.prog 67 #[.int .i64 f, .int .i64 m] w fun e w' => e = .returned (.tuple #[.int .u64 (P2 m.toNat - 1), .bool true]) ∧ w = w' := by
  rw [okF_iff] at h
  obtain ⟨h1, h2, h3, h4, h5⟩ := h
  have h6 : m ≤ 64 - f := by omega
  have h7 : decide (m ≤ 64 - f) = true := by simpa using h6
  clear h5
  go_enter Try.func67, Try.ntmps67
  go_wp2
  go_ret2
  exact ⟨by rw [← mask_num m h3 h4]; rfl, rfl⟩


theorem P2_nat (k : Nat) : P2 k = ((2 ^ k : Nat) : Int) := by unfold P2; simp

theorem fit64 {x : Nat} (h : x < 2 ^ 64) : (x : Int) ≤ 18446744073709551615 := by
  have : (2 : Nat) ^ 64 = 18446744073709551616 := by decide
  omega

theorem get_num (x : Nat) (hx : x < 2 ^ 64) (f m : Int) (hm : 1 ≤ m) (hm2 : m ≤ 64) : bits .and .u64 ((x : Int) / 2 ^ f.toNat) (P2 m.toNat - 1) = (getN x f.toNat m.toNat : Int) := by
  rw [getN_eq]
  have h1 := fit64 hx
  have hdiv : (x : Int) / 2 ^ f.toNat = ((x / 2 ^ f.toNat : Nat) : Int) := by simp
  have h2 : x / 2 ^ f.toNat ≤ x := Nat.div_le_self _ _
  have hP := P2_le' (show m.toNat ≤ 64 by omega)
  have hp := P2_pos m.toNat
  rw [hdiv]
  generalize x / 2 ^ f.toNat = q at *
  rw [u64_and _ _ (by omega) (by omega) (by omega) (by omega)]
  have h3 : (P2 m.toNat - 1).toNat = 2 ^ m.toNat - 1 := by rw [P2_nat]; omega
  rw [h3, Int.toNat_natCast, Nat.and_two_pow_sub_one_eq_mod]

set_option maxRecDepth 100000 in
set_option maxHeartbeats 400000 in
theorem get_yes (x : Nat) (hx : x < 2 ^ 64) (f m : Int) (h : okF f m = true) (w : World) :
    Calls Try.prog 64 #[.int .u64 x, .int .i64 f, .int .i64 m] w fun e w' => e = .returned (.tuple #[.int .u64 (getN x f.toNat m.toNat), .bool true]) ∧ w = w' := by
  have h' := (okF_iff f m).1 h
  obtain ⟨h1, h2, h3, h4, h5⟩ := h'
  have hn := Lib.hid (get_num x hx f m h3 h4)
  go_enter Try.func64, Try.ntmps64
  go_wp2_with (go_at_call 67; refine (mask_yes f m h _).mono ?_; rintro e w' ⟨rfl, rfl⟩)
  go_ret2
  exact ⟨by rw [← hn.out]; rfl, rfl⟩

theorem not_num (b : Nat) (hb : b < 2 ^ 64) (m : Int) (hm : 1 ≤ m) (hm2 : m ≤ 64) : bits .andNot .u64 (b : Int) (P2 m.toNat - 1) = ((b &&& (2 ^ 64 - 1 - (2 ^ m.toNat - 1)) : Nat) : Int) := by
  have h1 := fit64 hb
  have hP := P2_le' (show m.toNat ≤ 64 by omega)
  have hp := P2_pos m.toNat
  rw [u64_andNot _ _ (by omega) (by omega) (by omega) (by omega)]
  have h3 : (P2 m.toNat - 1).toNat = 2 ^ m.toNat - 1 := by rw [P2_nat]; omega
  rw [h3, Int.toNat_natCast]

theorem not_zero (b : Nat) (hb : b < 2 ^ 64) (m : Int) (hm : 1 ≤ m) (hm2 : m ≤ 64) : (bits .andNot .u64 (b : Int) (P2 m.toNat - 1) != 0) = !decide (b < 2 ^ m.toNat) := by
  rw [not_num b hb m hm hm2]
  have := andNot_zero b m.toNat hb (by omega)
  by_cases h : b < 2 ^ m.toNat
  · rw [this.2 h]; simp [h]
  · have h2 : b &&& (2 ^ 64 - 1 - (2 ^ m.toNat - 1)) ≠ 0 := fun e => h (this.1 e)
    generalize b &&& (2 ^ 64 - 1 - (2 ^ m.toNat - 1)) = q at *
    simp [h, h2]

theorem shl_lt {a k f : Nat} (h : a < 2 ^ k) (hf : f + k ≤ 64) : a * 2 ^ f < 2 ^ 64 := by
  have h1 : a * 2 ^ f < 2 ^ k * 2 ^ f := Nat.mul_lt_mul_of_pos_right h (Nat.two_pow_pos f)
  rw [← Nat.pow_add] at h1
  exact Nat.lt_of_lt_of_le h1 (Nat.pow_le_pow_right (by omega) (by omega))

theorem put_num (x b : Nat) (hx : x < 2 ^ 64) (f m : Int) (hf : 0 ≤ f) (hm : 1 ≤ m) (hfm : f + m ≤ 64) (hb : b < 2 ^ m.toNat) :
    bits .or .u64 (bits .andNot .u64 (x : Int) (IntKind.u64.wrap ((P2 m.toNat - 1) * 2 ^ f.toNat))) (IntKind.u64.wrap ((b : Int) * 2 ^ f.toNat)) = (putN x b f.toNat m.toNat : Int) := by
  have hsum : f.toNat + m.toNat ≤ 64 := by omega
  have hp := P2_pos m.toNat
  have e1 : (P2 m.toNat - 1) * 2 ^ f.toNat = (((2 ^ m.toNat - 1) * 2 ^ f.toNat : Nat) : Int) := by
    have h3 : P2 m.toNat - 1 = ((2 ^ m.toNat - 1 : Nat) : Int) := by rw [P2_nat]; have := Nat.two_pow_pos m.toNat; omega
    rw [h3]; simp
  have e2 : (b : Int) * 2 ^ f.toNat = ((b * 2 ^ f.toNat : Nat) : Int) := by simp
  have l1 : (2 ^ m.toNat - 1) * 2 ^ f.toNat < 2 ^ 64 := shl_lt (k := m.toNat) (by have := Nat.two_pow_pos m.toNat; omega) hsum
  have l2 : b * 2 ^ f.toNat < 2 ^ 64 := shl_lt hb hsum
  have eq := putN_eq x b f.toNat m.toNat hx hb hsum
  have g1 := fit64 l1
  have g2 := fit64 l2
  have g3 := fit64 hx
  rw [e1, e2, u64_fit (by omega) g1, u64_fit (by omega) g2, ← eq]
  rw [u64_andNot _ _ (by omega) (by omega) (by omega) (by omega)]
  have l3 : x &&& (2 ^ 64 - 1 - (2 ^ m.toNat - 1) * 2 ^ f.toNat) ≤ x := Nat.and_le_left
  simp only [Int.toNat_natCast]
  generalize hq1 : (2 ^ m.toNat - 1) * 2 ^ f.toNat = q1 at *
  generalize b * 2 ^ f.toNat = q2 at *
  have e3 : (18446744073709551615 - q1) = 2 ^ 64 - 1 - q1 := rfl
  rw [e3]
  rw [u64_or _ _ (by omega) (by omega) (by omega) (by omega)]
  simp only [Int.toNat_natCast]

set_option maxRecDepth 100000 in
set_option maxHeartbeats 400000 in
theorem put_yes (x b : Nat) (hx : x < 2 ^ 64) (f m : Int) (h : okF f m = true) (hb : b < 2 ^ m.toNat) (w : World) :
    Calls Try.prog 51 #[.int .u64 x, .int .u64 b, .int .i64 f, .int .i64 m] w fun e w' => e = .returned (.tuple #[.int .u64 (putN x b f.toNat m.toNat), .bool true]) ∧ Keep [] w w' := by
  have h' := (okF_iff f m).1 h
  obtain ⟨h1, h2, h3, h4, h5⟩ := h'
  have hb64 : b < 2 ^ 64 := Nat.lt_of_lt_of_le hb (Nat.pow_le_pow_right (by omega) (by omega))
  have hz : (bits .andNot .u64 (b : Int) (P2 m.toNat - 1) != 0) = false := by rw [not_zero b hb64 m h3 h4]; simpa using hb
  have HB := Lib.hid hb; clear hb
  go_enter Try.func51, Try.ntmps51
  go_wp2_with (go_at_call 67; refine (mask_yes f m h _).mono ?_; rintro e w' ⟨rfl, rfl⟩)
  go_region
  all_goals go_wp2
  all_goals
    go_ret2
    exact ⟨by rw [← put_num x b hx f m h1 h3 h5 HB.out]; rfl, by repeat (first | exact Keep.refl _ _ | refine Keep.drew ?_ | refine Keep.drewN ?_ _ | refine Keep.setCell ?_ (by first | (left; simp; done) | (right; simp; done) | (right; omega) | (right; simp; omega)) _ _ | refine Keep.setBlock ?_ (by first | (left; simp; done) | (right; simp; done) | (right; omega) | (right; simp; omega)) _ | refine Keep.alloc ?_ _ | refine Keep.andThen ?_ (by assumption) (by first | (simp; done) | (simp; omega) | (intro x hx; simp at hx; simp; omega)))⟩

theorem put_add (x b f m : Nat) (hx : x < 2 ^ f) (hb : b < 2 ^ m) (hf : f + m ≤ 64) : putN x b f m = 2 ^ f * b + x := by
  apply Nat.eq_of_testBit_eq
  intro i
  rw [putN, sumB_bit, Nat.testBit_two_pow_mul_add b hx]
  by_cases h1 : i < f
  · have h2 : ¬ (f ≤ i ∧ i < f + m) := by omega
    simp [h1, h2]
    intro _; omega
  · by_cases h3 : i < f + m
    · have h2 : f ≤ i ∧ i < f + m := by omega
      have h4 : i < 64 := by omega
      simp [h1, h2, h4]
    · have h2 : ¬ (f ≤ i ∧ i < f + m) := by omega
      have hxi : x.testBit i = false := Nat.testBit_lt_two_pow (Nat.lt_of_lt_of_le hx (Nat.pow_le_pow_right (by omega) (by omega)))
      have hbi : b.testBit (i - f) = false := Nat.testBit_lt_two_pow (Nat.lt_of_lt_of_le hb (Nat.pow_le_pow_right (by omega) (by omega)))
      simp [h1, h2, hxi, hbi]
end Go.Proofs.Ytehmjjfgefopdaa
