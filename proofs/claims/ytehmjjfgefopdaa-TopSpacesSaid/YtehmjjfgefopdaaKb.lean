import Derived.Test.YtehmjjfgefopdaaKa
import Derived.Laws.BitsAllLaws
namespace Go.Proofs.Ytehmjjfgefopdaa
open Go.RowKit
set_option linter.unusedSimpArgs false
set_option linter.unusedVariables false

/-! ### a block's buddy -/
def bud (a k : Nat) : Nat := if a / 2 ^ k % 2 = 0 then a + 2 ^ k else a - 2 ^ k
def par (a k : Nat) : Nat := if a / 2 ^ k % 2 = 0 then a else a - 2 ^ k
theorem par_dvd {a k : Nat} (h : 2 ^ k ∣ a) : 2 ^ (k + 1) ∣ par a k := by
  obtain ⟨q, rfl⟩ := h
  have hp := Nat.two_pow_pos k
  unfold par
  rw [Nat.mul_div_cancel_left _ hp]
  rcases Nat.mod_two_eq_zero_or_one q with e | e
  · rw [if_pos e]
    refine ⟨q / 2, ?_⟩
    rw [Nat.pow_succ, Nat.mul_assoc]
    congr 1; omega
  · rw [if_neg (by omega)]
    refine ⟨q / 2, ?_⟩
    have : q = 2 * (q / 2) + 1 := by omega
    rw [Nat.pow_succ, Nat.mul_assoc]
    conv => lhs; rw [this, Nat.mul_add]
    omega
theorem par_cvr {a k : Nat} (h : 2 ^ k ∣ a) (g : Nat) : cvr (par a k) (k + 1) g = cvr a k g + cvr (bud a k) k g := by
  obtain ⟨q, rfl⟩ := h
  have hp := Nat.two_pow_pos k
  have e2 : 2 ^ (k + 1) = 2 * 2 ^ k := by rw [Nat.pow_succ, Nat.mul_comm]
  unfold par bud cvr
  rw [Nat.mul_div_cancel_left _ hp, e2]
  rcases Nat.mod_two_eq_zero_or_one q with e | e
  · simp only [if_pos e]
    split <;> split <;> split <;> omega
  · have : 2 ^ k ≤ 2 ^ k * q := by
      have : q ≠ 0 := by omega
      exact Nat.le_mul_of_pos_right _ (by omega)
    simp only [show ¬ q % 2 = 0 by omega, if_false]
    split <;> split <;> split <;> omega
theorem par_le (a k : Nat) : par a k ≤ a := by unfold par; split; exact Nat.le_refl _; exact Nat.sub_le _ _
set_option maxRecDepth 100000 in
theorem xor_bud8 : ∀ k, k < 8 → ∀ a, a < 256 → 2 ^ k ∣ a → a ^^^ 2 ^ k = bud a k ∧ a &&& (18446744073709551615 - 2 ^ k) = par a k := by
  decide +kernel
theorem x64 (a b : Nat) (ha : a < 2 ^ 62) (hb : b < 2 ^ 62) : bits .xor .i64 (a : Int) (b : Int) = ((a ^^^ b : Nat) : Int) := by
  have hx : a ^^^ b < 2 ^ 62 := Nat.xor_lt_two_pow ha hb
  show IntKind.i64.wrap ((BitVec.ofInt 64 (a : Int) ^^^ BitVec.ofInt 64 (b : Int)).toNat : Int) = _
  rw [BitVec.toNat_xor, ofInt_u64 a (by omega), ofInt_u64 b (by omega)]
  exact IntWalk.i64_in _ (by omega)
theorem n64 (a b : Nat) (ha : a < 2 ^ 62) (hb : b < 2 ^ 62) : bits .andNot .i64 (a : Int) (b : Int) = ((a &&& (18446744073709551615 - b) : Nat) : Int) := by
  have hx : a &&& (18446744073709551615 - b) ≤ a := Nat.and_le_left
  show IntKind.i64.wrap ((BitVec.ofInt 64 (a : Int) &&& ~~~BitVec.ofInt 64 (b : Int)).toNat : Int) = _
  rw [BitVec.toNat_and, BitVec.toNat_not, ofInt_u64 a (by omega), ofInt_u64 b (by omega)]
  have e : 2 ^ 64 - 1 - b = 18446744073709551615 - b := by omega
  rw [e]
  exact IntWalk.i64_in _ (by omega)
theorem xorB {a k : Nat} (hk : k < 8) (ha : a < 256) (hd : 2 ^ k ∣ a) : bits .xor .i64 (a : Int) ((2 ^ k : Nat) : Int) = (bud a k : Nat) := by
  have : 2 ^ k < 2 ^ 62 := Nat.pow_lt_pow_right (by omega) (by omega)
  rw [x64 _ _ (by omega) this, (xor_bud8 k hk a ha hd).1]
theorem notB {a k : Nat} (hk : k < 8) (ha : a < 256) (hd : 2 ^ k ∣ a) : bits .andNot .i64 (a : Int) ((2 ^ k : Nat) : Int) = (par a k : Nat) := by
  have : 2 ^ k < 2 ^ 62 := Nat.pow_lt_pow_right (by omega) (by omega)
  rw [n64 _ _ (by omega) this, (xor_bud8 k hk a ha hd).2]
theorem bud_lt {a k : Nat} (hk : k < 8) (ha : a < 256) (hd : 2 ^ k ∣ a) : bud a k < 256 := by
  rw [← (xor_bud8 k hk a ha hd).1]
  exact Nat.xor_lt_two_pow (n := 8) ha (Nat.pow_lt_pow_right (by omega) hk)

/-! ### what is free and what is held -/
structure BS (N R : Nat) (L : LS) (H : List Nat) : Prop where
  bi : BI L
  nd : H.Nodup
  cv : ∀ g, cov L g + (if g ∈ H then 1 else 0) = if R ≤ g ∧ g < N then 1 else 0
  lf : left L + H.length + R = N
  le : N ≤ 256
theorem BS.held {N R : Nat} {L : LS} {H : List Nat} (h : BS N R L H) {g : Nat} (hg : g ∈ H) : R ≤ g ∧ g < N := by
  have := h.cv g
  rw [if_pos hg] at this
  by_cases e : R ≤ g ∧ g < N
  · exact e
  · rw [if_neg e] at this; omega
theorem BS.free {N R : Nat} {L : LS} {H : List Nat} (h : BS N R L H) {g : Nat} (hg : 0 < cov L g) : R ≤ g ∧ g < N ∧ g ∉ H := by
  have := h.cv g
  by_cases e : R ≤ g ∧ g < N
  · refine ⟨e.1, e.2, fun hm => ?_⟩
    rw [if_pos e, if_pos hm] at this; omega
  · rw [if_neg e] at this; omega
theorem cov_in {L : LS} {k f g : Nat} (hk : k < 9) (hf : f ∈ L k) (h : f ≤ g ∧ g < f + 2 ^ k) : 0 < cov L g := by
  have h1 := blkc_le_cov L k hk g
  have h2 := blkc_mem (k := k) (g := g) hf
  unfold cvr at h2
  rw [if_pos h] at h2
  omega
theorem some_list {L : LS} (h : 0 < left L) : ∃ k, k < 9 ∧ L k ≠ [] := by
  apply Classical.byContradiction
  intro hn
  have h0 : ∀ k, k < 9 → L k = [] := fun k hk => Classical.byContradiction fun e => hn ⟨k, hk, e⟩
  have : left L = 0 := by
    unfold left
    rw [List.sum_eq_zero_iff_forall_eq_nat.2]
    intro x hx
    simp only [List.mem_map, List.mem_range] at hx
    obtain ⟨k, hk, rfl⟩ := hx
    rw [h0 k hk]; simp
  omega
theorem BS.alloc {N R : Nat} {L : LS} {H : List Nat} (h : BS N R L H) {f k : Nat} (hk : k < 9) (hf : f ∈ L k) :
    BS N R (halve (updL L k ((L k).erase f)) f k) (H ++ [f]) ∧ f ∉ H ∧ R ≤ f ∧ f < N := by
  have hp := Nat.two_pow_pos k
  obtain ⟨a1, a2, a3⟩ := h.bi.take hk hf
  have hz : ∀ g, f ≤ g → g < f + 2 ^ k → cov (updL L k ((L k).erase f)) g = 0 := fun g e1 e2 => by
    have := a2 g
    have := h.bi.once g
    unfold cvr at *
    rw [if_pos ⟨e1, e2⟩] at *
    omega
  obtain ⟨b1, b2, b3⟩ := a1.halved hk (h.bi.al k f hf) hz
  obtain ⟨c1, c2, c3⟩ := h.free (cov_in hk hf ⟨Nat.le_refl f, by omega⟩)
  refine ⟨⟨b1, ?_, fun g => ?_, ?_, h.le⟩, c3, c1, c2⟩
  · rw [List.nodup_append]
    exact ⟨h.nd, by simp, fun x hx y hy e => by simp at hy; subst hy; subst e; exact c3 hx⟩
  · rw [b2, ← h.cv g]
    have := a2 g
    have e3 : (g ∈ H ++ [f]) ↔ (g ∈ H ∨ g = f) := by simp
    by_cases e : g = f
    · subst e
      rw [if_pos (e3.2 (.inr rfl)), if_neg c3, if_neg (by omega)]
      rw [cvr_self] at this
      omega
    · have : (if g ∈ H ++ [f] then 1 else 0) = (if g ∈ H then 1 else 0) := by
        by_cases e4 : g ∈ H
        · rw [if_pos e4, if_pos (e3.2 (.inl e4))]
        · rw [if_neg e4, if_neg (fun x => (e3.1 x).elim e4 e)]
      rw [this]
      unfold cvr at *
      by_cases e5 : f ≤ g ∧ g < f + 2 ^ k
      · rw [if_pos e5] at *
        rw [if_pos (by omega)]
        omega
      · rw [if_neg e5] at *
        rw [if_neg (by omega)]
        omega
  · have := h.lf
    simp only [List.length_append, List.length_cons, List.length_nil]
    omega
/-- a block that grows, on its way back -/
structure MS (L : LS) (f : Nat) (L' : LS) (a k : Nat) : Prop where
  bi : BI L'
  k8 : k < 9
  al : 2 ^ k ∣ a
  a256 : a < 256
  cv : ∀ g, cov L' g + cvr a k g = cov L g + if g = f then 1 else 0
  lf : left L' + 2 ^ k = left L + 1
theorem MS.init {N R : Nat} {L : LS} {H : List Nat} (h : BS N R L H) {f : Nat} (hf : f < 256) : MS L f L f 0 := by
  refine ⟨h.bi, by omega, ⟨f, by simp⟩, hf, fun g => ?_, by simp⟩
  unfold cvr
  by_cases e : g = f
  · rw [if_pos e, if_pos (by simp; omega)]
  · rw [if_neg e, if_neg (by simp; omega)]
theorem MS.step {L : LS} {f : Nat} {L' : LS} {a k : Nat} (h : MS L f L' a k) (hk : k < 8) (hy : bud a k ∈ L' k) : MS L f (updL L' k ((L' k).erase (bud a k))) (par a k) (k + 1) := by
  obtain ⟨a1, a2, a3⟩ := h.bi.take h.k8 hy
  have e2 : 2 ^ (k + 1) = 2 * 2 ^ k := by rw [Nat.pow_succ, Nat.mul_comm]
  refine ⟨a1, by omega, par_dvd h.al, Nat.lt_of_le_of_lt (par_le a k) h.a256, fun g => ?_, ?_⟩
  · rw [par_cvr h.al, ← h.cv g]
    have := a2 g
    omega
  · have := h.lf
    omega
theorem MS.last {N R : Nat} {L : LS} {H : List Nat} (h0 : BS N R L H) {f : Nat} (hf : f ∈ H) {L' : LS} {a k : Nat} (h : MS L f L' a k) : BS N R (updL L' k (ins a (L' k))) (H.erase f) := by
  have hc : ∀ g, cov L g + (if g = f then 1 else 0) ≤ 1 := fun g => by
    have := h0.cv g
    by_cases e : g = f
    · subst e
      rw [if_pos hf] at this
      split at this <;> simp <;> omega
    · rw [if_neg e]
      have := h0.bi.once g
      omega
  obtain ⟨a1, a2, a3⟩ := h.bi.put h.k8 h.al (fun g e1 e2 => by
    have h1 := h.cv g
    have h2 := hc g
    unfold cvr at h1
    rw [if_pos ⟨e1, e2⟩] at h1
    omega)
  refine ⟨a1, h0.nd.erase f, fun g => ?_, ?_, h0.le⟩
  · rw [a2, h.cv g, ← h0.cv g]
    by_cases e : g = f
    · subst e
      rw [if_pos hf, if_pos rfl, if_neg (fun x => (h0.nd.mem_erase_iff.1 x).1 rfl)]
    · rw [if_neg e]
      have : (if g ∈ H.erase f then 1 else 0) = (if g ∈ H then 1 else 0) := by
        by_cases e4 : g ∈ H
        · rw [if_pos e4, if_pos (h0.nd.mem_erase_iff.2 ⟨e, e4⟩)]
        · rw [if_neg e4, if_neg (fun x => e4 (h0.nd.mem_erase_iff.1 x).2)]
      rw [this]
      omega
  · have h1 := h0.lf
    have h2 := h.lf
    have h3 := List.length_erase_of_mem hf
    have h4 : 0 < H.length := List.length_pos_of_mem hf
    omega
theorem len_le_left (L : LS) (k : Nat) (hk : k < 9) : (L k).length ≤ left L := by
  have := left_upd L k [] hk
  have hp := Nat.two_pow_pos k
  have h2 : (L k).length ≤ (L k).length * 2 ^ k := Nat.le_mul_of_pos_right _ hp
  simp only [List.length_nil, Nat.zero_mul, Nat.add_zero] at this
  omega
end Go.Proofs.Ytehmjjfgefopdaa
