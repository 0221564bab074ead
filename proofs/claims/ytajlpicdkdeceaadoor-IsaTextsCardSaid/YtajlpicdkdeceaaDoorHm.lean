import Derived.Test.YtajlpicdkdeceaaDoorLib
import Derived.Laws.BitsAllLaws
namespace Go.Proofs.YtajlpicdkdeceaaDoor
open Go.RowKit
set_option linter.unusedSimpArgs false
set_option linter.unusedVariables false

/-- the number whose bits are g's, below n -/
def sumB (g : Nat → Bool) : Nat → Nat
  | 0 => 0
  | n + 1 => sumB g n + (g n).toNat * 2 ^ n
theorem sumB_lt (g : Nat → Bool) (n : Nat) : sumB g n < 2 ^ n := by
  induction n with
  | zero => simp [sumB]
  | succ n ih =>
    simp only [sumB, Nat.pow_succ]
    cases g n <;> simp <;> omega
theorem sumB_bit (g : Nat → Bool) (n j : Nat) : (sumB g n).testBit j = (decide (j < n) && g j) := by
  induction n with
  | zero => simp [sumB]
  | succ n ih =>
    have hl := sumB_lt g n
    simp only [sumB]
    cases hg : g n with
    | false =>
      simp only [Bool.toNat_false, Nat.zero_mul, Nat.add_zero, ih]
      by_cases h : j = n
      · subst h; simp [hg]
      · have : (j < n + 1) ↔ j < n := by omega
        simp [this]
    | true =>
      simp only [Bool.toNat_true, Nat.one_mul, Nat.add_comm (sumB g n)]
      by_cases h : j = n
      · subst h
        rw [Nat.testBit_two_pow_add_eq, ih]
        simp [hg]
      · by_cases h2 : j < n
        · rw [Nat.testBit_two_pow_add_gt h2, ih]
          simp [h2, Nat.lt_succ_of_lt h2]
        · have h3 : n < j := by omega
          have h4 : ¬ j < n + 1 := by omega
          simp only [h4, decide_false, Bool.false_and]
          apply Nat.testBit_lt_two_pow
          calc 2 ^ n + sumB g n < 2 ^ n + 2 ^ n := by omega
            _ = 2 ^ (n + 1) := by rw [Nat.pow_succ]; omega
            _ ≤ 2 ^ j := Nat.pow_le_pow_right (by omega) (by omega)

def getN (x f m : Nat) : Nat := sumB (fun i => x.testBit (f + i)) m
def putN (x b f m : Nat) : Nat := sumB (fun i => if f ≤ i ∧ i < f + m then b.testBit (i - f) else x.testBit i) 64

theorem getN_eq (x f m : Nat) : getN x f m = x / 2 ^ f % 2 ^ m := by
  apply Nat.eq_of_testBit_eq
  intro j
  rw [getN, sumB_bit, Nat.testBit_mod_two_pow, Nat.testBit_div_two_pow, Nat.add_comm]

theorem putN_lt (x b f m : Nat) : putN x b f m < 2 ^ 64 := sumB_lt _ _

theorem bit_ge {x n j : Nat} (h : x < 2 ^ n) (hj : n ≤ j) : x.testBit j = false :=
  Nat.testBit_lt_two_pow (Nat.lt_of_lt_of_le h (Nat.pow_le_pow_right (by omega) hj))

/-- the program's Put -/
theorem putN_eq (x b f m : Nat) (hx : x < 2 ^ 64) (hb : b < 2 ^ m) (hf : f + m ≤ 64) :
    (x &&& (2 ^ 64 - 1 - (2 ^ m - 1) * 2 ^ f)) ||| (b * 2 ^ f) = putN x b f m := by
  apply Nat.eq_of_testBit_eq
  intro j
  have hc : 2 ^ 64 - 1 - (2 ^ m - 1) * 2 ^ f = sumB (fun i => !decide (f ≤ i ∧ i < f + m)) 64 := by
    have h1 : (2 ^ m - 1) * 2 ^ f = sumB (fun i => decide (f ≤ i ∧ i < f + m)) 64 := by
      apply Nat.eq_of_testBit_eq
      intro j
      rw [sumB_bit, ← Nat.shiftLeft_eq, Nat.testBit_shiftLeft, Nat.testBit_two_pow_sub_one, Bool.eq_iff_iff]
      simp
      omega
    have h2 : ∀ (g : Nat → Bool) (n : Nat), sumB (fun i => !g i) n = 2 ^ n - 1 - sumB g n := by
      intro g n
      induction n with
      | zero => rfl
      | succ n ih =>
        have := sumB_lt g n
        simp only [sumB, ih, Nat.pow_succ]
        cases g n <;> simp <;> omega
    rw [h1, h2]
  rw [hc, Nat.testBit_or, Nat.testBit_and, sumB_bit, putN, sumB_bit, ← Nat.shiftLeft_eq, Nat.testBit_shiftLeft]
  by_cases h64 : j < 64
  · by_cases h1 : f ≤ j ∧ j < f + m
    · simp [h64, h1]
    · by_cases h2 : f ≤ j
      · have : b.testBit (j - f) = false := bit_ge hb (by omega)
        simp [h64, h1, this]
      · simp [h64, h1, h2]
  · have h3 : x.testBit j = false := bit_ge hx (by omega)
    have h4 : f ≤ j → b.testBit (j - f) = false := fun _ => bit_ge hb (by omega)
    simp [h64, h3]
    exact h4

theorem bit_num (x i : Nat) : x / 2 ^ i % 2 = (x.testBit i).toNat := by
  rw [Nat.testBit_eq_decide_div_mod_eq]
  have : x / 2 ^ i % 2 = 0 ∨ x / 2 ^ i % 2 = 1 := by omega
  rcases this with h | h <;> simp [h]

theorem notmask (m : Nat) (hm : m ≤ 64) : 2 ^ 64 - 1 - (2 ^ m - 1) = sumB (fun i => !decide (i < m)) 64 := by
  have h1 : 2 ^ m - 1 = sumB (fun i => decide (i < m)) 64 := by
    apply Nat.eq_of_testBit_eq
    intro j
    rw [sumB_bit, Nat.testBit_two_pow_sub_one, Bool.eq_iff_iff]
    simp
    omega
  have h2 : ∀ (g : Nat → Bool) (n : Nat), sumB (fun i => !g i) n = 2 ^ n - 1 - sumB g n := by
    intro g n
    induction n with
    | zero => rfl
    | succ n ih =>
      have := sumB_lt g n
      simp only [sumB, ih, Nat.pow_succ]
      cases g n <;> simp <;> omega
  rw [h1, h2]
theorem andNot_zero (b m : Nat) (hb : b < 2 ^ 64) (hm : m ≤ 64) : b &&& (2 ^ 64 - 1 - (2 ^ m - 1)) = 0 ↔ b < 2 ^ m := by
  rw [notmask m hm]
  constructor
  · intro h
    have hz : ∀ j, m ≤ j → b.testBit j = false := by
      intro j hj
      by_cases h64 : j < 64
      · have := congrArg (fun z => z.testBit j) h
        simp only [Nat.testBit_and, sumB_bit, Nat.zero_testBit, h64, decide_true, Bool.true_and, show ¬ j < m by omega, decide_false, Bool.not_false, Bool.and_true] at this
        exact this
      · exact bit_ge hb (by omega)
    have : b = b % 2 ^ m := by
      apply Nat.eq_of_testBit_eq
      intro j
      rw [Nat.testBit_mod_two_pow]
      by_cases hj : j < m
      · simp [hj]
      · simp [hj, hz j (by omega)]
    rw [this]
    exact Nat.mod_lt _ (Nat.two_pow_pos m)
  · intro h
    apply Nat.eq_of_testBit_eq
    intro j
    rw [Nat.testBit_and, sumB_bit, Nat.zero_testBit]
    by_cases hj : j < m
    · simp [hj]
    · simp [bit_ge h (by omega : m ≤ j)]

/-! ### the laws -/
theorem get_put (x y f m : Nat) (hy : y < 2 ^ m) (hf : f + m ≤ 64) : getN (putN x y f m) f m = y := by
  apply Nat.eq_of_testBit_eq
  intro j
  rw [getN, sumB_bit, putN, sumB_bit]
  by_cases h : j < m
  · have h1 : f + j < 64 := by omega
    have h2 : f + j < f + m := by omega
    simp [h, h1]
  · simp [h, bit_ge hy (by omega : m ≤ j)]
theorem put_back (x y f m : Nat) (hx : x < 2 ^ 64) : putN (putN x y f m) (getN x f m) f m = x := by
  apply Nat.eq_of_testBit_eq
  intro j
  rw [putN, sumB_bit]
  by_cases h : j < 64
  · by_cases h1 : f ≤ j ∧ j < f + m
    · simp only [h, h1, getN, sumB_bit, decide_true, Bool.true_and, and_self, if_true]
      rw [show f + (j - f) = j by omega]
      have : j - f < m := by omega
      simp [this]
    · simp only [h, h1, decide_true, Bool.true_and, if_false, putN, sumB_bit]
  · simp [h, bit_ge hx (by omega : 64 ≤ j)]
theorem get_apart (x y f m g n : Nat) (hfm : f + m ≤ 64) (h : g + n ≤ f ∨ f + m ≤ g) : getN (putN x y g n) f m = getN x f m := by
  apply Nat.eq_of_testBit_eq
  intro j
  rw [getN, getN, sumB_bit, sumB_bit]
  by_cases hj : j < m
  · have h1 : f + j < 64 := by omega
    have h2 : ¬ (g ≤ f + j ∧ f + j < g + n) := by omega
    simp [hj, putN, sumB_bit, h1, h2]
  · simp [hj]
theorem whole (x c : Nat) (hx : x < 2 ^ 64) (hc : c ≤ 64) : putN (putN 0 (getN x 0 c) 0 c) (getN x c (64 - c)) c (64 - c) = x := by
  apply Nat.eq_of_testBit_eq
  intro j
  rw [putN, sumB_bit]
  by_cases h : j < 64
  · by_cases h1 : c ≤ j
    · have h2 : j < c + (64 - c) := by omega
      have h3 : j - c < 64 - c := by omega
      simp only [h, h1, h2, getN, sumB_bit, decide_true, Bool.true_and, and_self, if_true, h3]
      rw [show c + (j - c) = j by omega]
    · have h2 : j < c := by omega
      simp [h, h1, putN, sumB_bit, getN, h2]
  · simp [h, bit_ge hx (by omega : 64 ≤ j)]

/-- how many bits are 1, below n -/
def cntB (x : Nat) : Nat → Nat
  | 0 => 0
  | n + 1 => cntB x n + (x.testBit n).toNat
theorem cntB_le (x n : Nat) : cntB x n ≤ n := by
  induction n with
  | zero => simp [cntB]
  | succ n ih => simp only [cntB]; cases x.testBit n <;> simp <;> omega
theorem cntB_high {x m n : Nat} (h : x < 2 ^ m) : ∀ d, n = m + d → cntB x n = cntB x m
  | 0, e => by subst e; rfl
  | d + 1, e => by
    subst e
    rw [← Nat.add_assoc]
    simp only [cntB, bit_ge h (by omega : m ≤ m + d), Bool.toNat_false, Nat.add_zero]
    exact cntB_high h d rfl
theorem cntB_get (x f : Nat) : ∀ m n, m ≤ n → cntB (getN x f n) m + cntB x f = cntB x (f + m)
  | 0, _, _ => by simp [cntB]
  | m + 1, n, h => by
    rw [← Nat.add_assoc]
    simp only [cntB]
    have ih := cntB_get x f m n (by omega)
    have : (getN x f n).testBit m = x.testBit (f + m) := by
      rw [getN, sumB_bit]; simp [show m < n by omega]
    rw [this]; omega
theorem cnt_whole (x c : Nat) (hc : c ≤ 64) : cntB (getN x 0 c) 64 + cntB (getN x c (64 - c)) 64 = cntB x 64 := by
  have h1 : cntB (getN x 0 c) 64 = cntB (getN x 0 c) c := cntB_high (sumB_lt _ _) (64 - c) (by omega)
  have h2 : cntB (getN x c (64 - c)) 64 = cntB (getN x c (64 - c)) (64 - c) := cntB_high (sumB_lt _ _) c (by omega)
  have h3 := cntB_get x 0 c c (Nat.le_refl _)
  have h4 := cntB_get x c (64 - c) (64 - c) (Nat.le_refl _)
  rw [show c + (64 - c) = 64 by omega] at h4
  simp only [cntB, Nat.zero_add, Nat.add_zero] at h3
  omega
end Go.Proofs.YtajlpicdkdeceaaDoor
