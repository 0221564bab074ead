import Derived.Test.YtfihnnijcaapkaaDoorBm
namespace Go.Proofs.YtfihnnijcaapkaaDoor
open Go.RowKit
set_option linter.unusedSimpArgs false
set_option linter.unusedVariables false

/-! ### the words of a set -/
def wd (S : Nat → Bool) (j : Nat) : Nat := sumB (fun i => S (j * 64 + i)) 64
def hiB (S : Nat → Bool) (j c : Nat) : Nat := sumB (fun i => decide (c ≤ j * 64 + i) && S (j * 64 + i)) 64
def upS (S : Nat → Bool) (n : Nat) (b : Bool) : Nat → Bool := fun m => if m = n then b else S m
theorem wd_lt (S : Nat → Bool) (j : Nat) : wd S j < 2 ^ 64 := sumB_lt _ _
theorem hiB_lt (S : Nat → Bool) (j c : Nat) : hiB S j c < 2 ^ 64 := sumB_lt _ _
theorem wd_bit (S : Nat → Bool) (j : Nat) {i : Nat} (hi : i < 64) : (wd S j).testBit i = S (j * 64 + i) := by
  rw [wd, sumB_bit]; simp [hi]
theorem hiB_bit (S : Nat → Bool) (j c i : Nat) : (hiB S j c).testBit i = (decide (i < 64) && (decide (c ≤ j * 64 + i) && S (j * 64 + i))) := by
  rw [hiB, sumB_bit]
theorem wd_at (S : Nat → Bool) (n : Nat) : (wd S (n / 64)).testBit (n % 64) = S n := by
  rw [wd_bit _ _ (Nat.mod_lt _ (by omega)), show n / 64 * 64 + n % 64 = n by omega]
theorem wd_hiB (S : Nat → Bool) (j : Nat) : wd S j = hiB S j (j * 64) := by
  apply Nat.eq_of_testBit_eq
  intro i
  rw [hiB_bit, wd, sumB_bit]
  simp
theorem wd_bit' (S : Nat → Bool) (j i : Nat) : (wd S j).testBit i = (decide (i < 64) && S (j * 64 + i)) := by
  rw [wd, sumB_bit]
theorem wd_put (S : Nat → Bool) (n : Nat) (b : Bool) : putN (wd S (n / 64)) b.toNat (n % 64) 1 = wd (upS S n b) (n / 64) := by
  apply Nat.eq_of_testBit_eq
  intro i
  rw [putN, sumB_bit]
  simp only [wd_bit']
  by_cases hi : i < 64
  · simp only [hi, decide_true, Bool.true_and, upS]
    by_cases h : i = n % 64
    · subst h
      rw [if_pos (by omega), if_pos (by omega), Nat.sub_self]
      cases b <;> rfl
    · rw [if_neg (by omega), if_neg (by omega)]
  · simp [hi]
theorem wd_other (S : Nat → Bool) (n : Nat) (b : Bool) (j : Nat) (h : j ≠ n / 64) : wd (upS S n b) j = wd S j := by
  apply Nat.eq_of_testBit_eq
  intro i
  rw [wd, sumB_bit, wd, sumB_bit]
  by_cases hi : i < 64
  · simp only [hi, decide_true, Bool.true_and, upS]
    rw [if_neg (by omega)]
  · simp [hi]
theorem upS_self (S : Nat → Bool) (n : Nat) (b : Bool) : upS (upS S n b) n (S n) = S := by
  funext m
  unfold upS
  by_cases h : m = n <;> simp [h]

/-! ### the lowest bit -/
theorem least_bit (p : Nat → Bool) : ∀ n, p n = true → ∃ q, q ≤ n ∧ p q = true ∧ ∀ i, i < q → p i = false := by
  intro n
  induction n using Nat.strongRecOn with
  | _ n ih =>
    intro hn
    by_cases h : ∃ i, i < n ∧ p i = true
    · obtain ⟨i, hi, hp⟩ := h
      obtain ⟨q, h1, h2, h3⟩ := ih i hi hp
      exact ⟨q, by omega, h2, h3⟩
    · refine ⟨n, Nat.le_refl _, hn, fun i hi => ?_⟩
      cases hp : p i with
      | false => rfl
      | true => exact absurd ⟨i, hi, hp⟩ h
theorem low_bit {w : Nat} (h : w ≠ 0) (hw : w < 2 ^ 64) : ∃ q, q < 64 ∧ w.testBit q = true ∧ ∀ i, i < q → w.testBit i = false := by
  obtain ⟨n, hn⟩ := Nat.exists_testBit_of_ne_zero h
  obtain ⟨q, h1, h2, h3⟩ := least_bit w.testBit n hn
  refine ⟨q, ?_, h2, h3⟩
  rcases Nat.lt_or_ge q 64 with h4 | h4
  · exact h4
  · rw [bit_ge hw h4] at h2; cases h2
theorem low_form {w q : Nat} (h1 : w.testBit q = true) (h2 : ∀ i, i < q → w.testBit i = false) : ∃ t, w = 2 ^ (q + 1) * t + 2 ^ q := by
  have hm : w % 2 ^ q = 0 := by
    apply Nat.eq_of_testBit_eq
    intro i
    rw [Nat.testBit_mod_two_pow, Nat.zero_testBit]
    by_cases h : i < q
    · simp [h2 i h]
    · simp [h]
  have hd : w / 2 ^ q % 2 = 1 := by
    have := bit_num w q
    rw [h1] at this
    simpa using this
  refine ⟨w / 2 ^ q / 2, ?_⟩
  have e1 := Nat.div_add_mod w (2 ^ q)
  have e2 := Nat.div_add_mod (w / 2 ^ q) 2
  rw [hm, Nat.add_zero] at e1
  rw [hd] at e2
  generalize w / 2 ^ q = u at *
  rw [← e1, ← e2]
  have : (2 * (u / 2) + 1) / 2 = u / 2 := by omega
  rw [this]
  rw [Nat.mul_add, Nat.mul_one, Nat.pow_succ, Nat.mul_assoc]
theorem low_clear {w q : Nat} (h1 : w.testBit q = true) (h2 : ∀ i, i < q → w.testBit i = false) (i : Nat) : (w &&& (w - 1)).testBit i = (decide (q < i) && w.testBit i) := by
  obtain ⟨t, ht⟩ := low_form h1 h2
  have hp : 1 ≤ 2 ^ q := Nat.one_le_two_pow
  have hs : 2 ^ q < 2 ^ (q + 1) := Nat.pow_lt_pow_right (by omega) (by omega)
  have e : w - 1 = 2 ^ (q + 1) * t + (2 ^ q - 1) := by omega
  rw [Nat.testBit_and, e, Nat.testBit_two_pow_mul_add _ (by omega)]
  by_cases h3 : i < q + 1
  · rw [if_pos h3, Nat.testBit_two_pow_sub_one]
    by_cases h4 : i < q
    · rw [h2 i h4]; simp
    · have : ¬ q < i := by omega
      simp [h4, this]
  · rw [if_neg h3, ht, Nat.testBit_two_pow_mul_add _ hs, if_neg h3]
    have : q < i := by omega
    simp [this]
theorem low_alone {w q : Nat} (hw : w < 2 ^ 64) (h1 : w.testBit q = true) (h2 : ∀ i, i < q → w.testBit i = false) : w &&& (2 ^ 64 - w) = 2 ^ q := by
  obtain ⟨t, ht⟩ := low_form h1 h2
  have hp : 1 ≤ 2 ^ q := Nat.one_le_two_pow
  have hs : 2 ^ q < 2 ^ (q + 1) := Nat.pow_lt_pow_right (by omega) (by omega)
  have e : w - 1 = 2 ^ (q + 1) * t + (2 ^ q - 1) := by omega
  have hz : 1 ≤ w := by omega
  have e2 : 2 ^ 64 - w = 2 ^ 64 - (w - 1 + 1) := by omega
  apply Nat.eq_of_testBit_eq
  intro i
  rw [Nat.testBit_and, e2, Nat.testBit_two_pow_sub_succ (by omega), Nat.testBit_two_pow, e, Nat.testBit_two_pow_mul_add _ (by omega)]
  by_cases h3 : i < q
  · rw [h2 i h3]; simp; try omega
  · by_cases h4 : i = q
    · subst h4
      have h64 : i < 64 := by
        rcases Nat.lt_or_ge i 64 with h | h
        · exact h
        · rw [bit_ge hw h] at h1; cases h1
      rw [if_pos (by omega), h1, Nat.testBit_two_pow_sub_one]
      simp [h64]
    · rw [if_neg (by omega)]
      have : w.testBit i = t.testBit (i - (q + 1)) := by rw [ht, Nat.testBit_two_pow_mul_add _ hs, if_neg (by omega)]
      rw [this]
      have : ¬ q = i := by omega
      simp [this]
      cases t.testBit (i - (q + 1)) <;> simp

/-! ### the numbers that are in, in their order -/
def memL (S : Nat → Bool) (n : Nat) : List Nat := (List.range n).filter S
theorem memL_succ (S : Nat → Bool) (n : Nat) : memL S (n + 1) = memL S n ++ (if S n then [n] else []) := by
  unfold memL
  rw [List.range_succ, List.filter_append]
  congr 1
  by_cases h : S n <;> simp [h]
theorem memL_gap (S : Nat → Bool) {a : Nat} : ∀ d, (∀ i, a ≤ i → i < a + d → S i = false) → memL S (a + d) = memL S a
  | 0, _ => rfl
  | d + 1, h => by
    rw [← Nat.add_assoc, memL_succ, memL_gap S d (fun i h1 h2 => h i h1 (by omega)), h (a + d) (by omega) (by omega)]
    simp
theorem memL_gap' (S : Nat → Bool) {a b : Nat} (hab : a ≤ b) (h : ∀ i, a ≤ i → i < b → S i = false) : memL S b = memL S a := by
  obtain ⟨d, rfl⟩ := Nat.le.dest hab
  exact memL_gap S d h
/-- the next round of the iterator -/
theorem next_round (S : Nat → Bool) (j c : Nat) (hc : j * 64 ≤ c) (hz : hiB S j c ≠ 0) :
    ∃ q, q < 64 ∧ (hiB S j c).testBit q = true ∧ (∀ i, i < q → (hiB S j c).testBit i = false) ∧ c ≤ j * 64 + q ∧ memL S (j * 64 + q + 1) = memL S c ++ [j * 64 + q] ∧
      hiB S j c &&& (hiB S j c - 1) = hiB S j (j * 64 + q + 1) ∧ hiB S j c &&& (2 ^ 64 - hiB S j c) = 2 ^ q := by
  obtain ⟨q, h1, h2, h3⟩ := low_bit hz (hiB_lt S j c)
  have h2' := h2
  rw [hiB_bit] at h2'
  simp at h2'
  refine ⟨q, h1, h2, h3, h2'.2.1, ?_, ?_, low_alone (hiB_lt S j c) h2 h3⟩
  · rw [memL_succ, h2'.2.2, if_pos rfl]
    congr 1
    refine memL_gap' S h2'.2.1 (fun i h4 h5 => ?_)
    have := h3 (i - j * 64) (by omega)
    rw [hiB_bit] at this
    rw [show j * 64 + (i - j * 64) = i by omega] at this
    simp at this
    exact this (by omega) h4
  · apply Nat.eq_of_testBit_eq
    intro i
    rw [low_clear h2 h3, hiB_bit, hiB_bit]
    by_cases h6 : q < i
    · have : c ≤ j * 64 + i := by omega
      have h7 : j * 64 + q + 1 ≤ j * 64 + i := by omega
      simp [h6, this, h7]
    · have h7 : ¬ j * 64 + q + 1 ≤ j * 64 + i := by omega
      simp [h6, h7]
/-- a word is over -/
theorem word_over (S : Nat → Bool) (j c : Nat) (hc : j * 64 ≤ c) (hc2 : c ≤ (j + 1) * 64) (hz : hiB S j c = 0) : memL S ((j + 1) * 64) = memL S c := by
  refine memL_gap' S hc2 (fun i h4 h5 => ?_)
  have : (hiB S j c).testBit (i - j * 64) = false := by rw [hz]; simp
  rw [hiB_bit, show j * 64 + (i - j * 64) = i by omega] at this
  simp at this
  exact this (by omega) h4
theorem memL_len (S : Nat → Bool) : ∀ n, (memL S n).length ≤ n := fun n => by
  unfold memL
  exact Nat.le_trans (List.length_filter_le _ _) (by simp)
theorem memL_mem (S : Nat → Bool) {n m : Nat} : m ∈ memL S n ↔ m < n ∧ S m = true := by
  unfold memL; simp
/-- how many -/
theorem cnt_word (S : Nat → Bool) (j : Nat) : ∀ k, k ≤ 64 → (memL S (j * 64 + k)).length = (memL S (j * 64)).length + cntB (wd S j) k
  | 0, _ => by simp [cntB]
  | k + 1, hk => by
    rw [← Nat.add_assoc, memL_succ, List.length_append, cnt_word S j k (by omega), cntB, wd_bit S j (by omega)]
    cases S (j * 64 + k) <;> simp <;> omega

/-! ### the table of TrailingZeros64 -/
theorem memL_congr {S T : Nat → Bool} {n : Nat} (h : ∀ i, i < n → S i = T i) : memL S n = memL T n := by
  unfold memL
  refine List.filter_congr (fun x hx => ?_)
  simp at hx
  exact h x hx
end Go.Proofs.YtfihnnijcaapkaaDoor
