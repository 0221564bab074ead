import Derived.Test.YtehmjjfgefopdaaLib
namespace Go.Proofs.Ytehmjjfgefopdaa
open Go.RowKit
set_option linter.unusedSimpArgs false
set_option linter.unusedVariables false

/-! ### frames in blocks, plainly -/
theorem sum_upd (f g : Nat → Nat) (k : Nat) (h : ∀ j, j ≠ k → f j = g j) : ∀ n, k < n → ((List.range n).map f).sum + g k = ((List.range n).map g).sum + f k
  | 0, hk => by omega
  | n + 1, hk => by
    rw [List.range_succ, List.map_append, List.map_append, List.sum_append, List.sum_append]
    simp only [List.map_cons, List.map_nil, List.sum_cons, List.sum_nil]
    by_cases e : k = n
    · subst e
      have : (List.range k).map f = (List.range k).map g := List.map_congr_left (fun j hj => h j (by have := List.mem_range.1 hj; omega))
      rw [this]; omega
    · have ih := sum_upd f g k h n (by omega)
      have := h n (fun e2 => e e2.symm)
      omega
/-- does a block cover a frame? -/
def cvr (f k g : Nat) : Nat := if f ≤ g ∧ g < f + 2 ^ k then 1 else 0
def blkc (l : List Nat) (k g : Nat) : Nat := (l.map fun f => cvr f k g).sum
abbrev LS := Nat → List Nat
def cov (L : LS) (g : Nat) : Nat := ((List.range 9).map fun k => blkc (L k) k g).sum
def left (L : LS) : Nat := ((List.range 9).map fun k => (L k).length * 2 ^ k).sum
def updL (L : LS) (k : Nat) (l : List Nat) : LS := fun j => if j = k then l else L j
theorem cov_upd (L : LS) (k : Nat) (l : List Nat) (hk : k < 9) (g : Nat) : cov (updL L k l) g + blkc (L k) k g = cov L g + blkc l k g := by
  have := sum_upd (fun j => blkc (updL L k l j) j g) (fun j => blkc (L j) j g) k (fun j hj => by simp [updL, hj]) 9 hk
  simp only [updL, if_true] at this
  exact this
theorem left_upd (L : LS) (k : Nat) (l : List Nat) (hk : k < 9) : left (updL L k l) + (L k).length * 2 ^ k = left L + l.length * 2 ^ k := by
  have := sum_upd (fun j => (updL L k l j).length * 2 ^ j) (fun j => (L j).length * 2 ^ j) k (fun j hj => by simp [updL, hj]) 9 hk
  simp only [updL, if_true] at this
  exact this
theorem blkc_le_cov (L : LS) (k : Nat) (hk : k < 9) (g : Nat) : blkc (L k) k g ≤ cov L g := by
  have := cov_upd L k [] hk g
  simp only [blkc, List.map_nil, List.sum_nil] at this ⊢
  omega
theorem blkc_append (l m : List Nat) (k g : Nat) : blkc (l ++ m) k g = blkc l k g + blkc m k g := by simp [blkc]
theorem blkc_cons (f : Nat) (l : List Nat) (k g : Nat) : blkc (f :: l) k g = cvr f k g + blkc l k g := by simp [blkc]
theorem cvr_self (f k : Nat) : cvr f k f = 1 := by
  have := Nat.two_pow_pos k
  unfold cvr
  rw [if_pos ⟨Nat.le_refl _, by omega⟩]
theorem blkc_mem {l : List Nat} {f k g : Nat} (h : f ∈ l) : cvr f k g ≤ blkc l k g := by
  induction l with
  | nil => cases h
  | cons a l ih =>
    rw [blkc_cons]
    rcases List.mem_cons.1 h with rfl | h
    · omega
    · have := ih h; omega
/-- put where it belongs -/
def ins (x : Nat) (l : List Nat) : List Nat := l.takeWhile (· < x) ++ x :: l.dropWhile (· < x)
theorem blkc_ins (x : Nat) (l : List Nat) (k g : Nat) : blkc (ins x l) k g = blkc l k g + cvr x k g := by
  unfold ins
  rw [blkc_append, blkc_cons]
  have := blkc_append (l.takeWhile (· < x)) (l.dropWhile (· < x)) k g
  rw [List.takeWhile_append_dropWhile] at this
  omega
theorem len_ins (x : Nat) (l : List Nat) : (ins x l).length = l.length + 1 := by
  unfold ins
  rw [List.length_append, List.length_cons]
  have := congrArg List.length (List.takeWhile_append_dropWhile (p := (· < x)) (l := l))
  rw [List.length_append] at this
  omega
theorem mem_ins {x y : Nat} {l : List Nat} : y ∈ ins x l ↔ y = x ∨ y ∈ l := by
  unfold ins
  have h : y ∈ l ↔ y ∈ l.takeWhile (· < x) ∨ y ∈ l.dropWhile (· < x) := by
    conv => lhs; rw [← List.takeWhile_append_dropWhile (p := (· < x)) (l := l)]
    exact List.mem_append
  rw [List.mem_append, List.mem_cons, h]
  constructor
  · rintro (h | h | h)
    · exact .inr (.inl h)
    · exact .inl h
    · exact .inr (.inr h)
  · rintro (h | h | h)
    · exact .inr (.inl h)
    · exact .inl h
    · exact .inr (.inr h)
theorem sorted_ins {x : Nat} : ∀ {l : List Nat}, l.Pairwise (· < ·) → x ∉ l → (ins x l).Pairwise (· < ·)
  | [], _, _ => by simp [ins]
  | a :: l, hs, hx => by
    obtain ⟨h1, h2⟩ := List.pairwise_cons.1 hs
    have hax : a ≠ x := fun e => hx (by simp [e])
    by_cases hlt : a < x
    · have e : ins x (a :: l) = a :: ins x l := by simp [ins, hlt]
      rw [e]
      refine List.pairwise_cons.2 ⟨fun y hy => ?_, sorted_ins h2 (fun h => hx (by simp [h]))⟩
      rcases mem_ins.1 hy with rfl | hy
      · exact hlt
      · exact h1 y hy
    · have e : ins x (a :: l) = x :: a :: l := by simp [ins, hlt]
      rw [e]
      refine List.pairwise_cons.2 ⟨fun y hy => ?_, hs⟩
      rcases List.mem_cons.1 hy with rfl | hy
      · omega
      · have := h1 y hy; omega
theorem blkc_erase {x : Nat} {l : List Nat} (k g : Nat) (h : x ∈ l) : blkc (l.erase x) k g + cvr x k g = blkc l k g := by
  induction l with
  | nil => cases h
  | cons a l ih =>
    by_cases e : a = x
    · subst e
      rw [List.erase_cons_head, blkc_cons]; omega
    · rw [List.erase_cons_tail (by simpa using e), blkc_cons, blkc_cons]
      have := ih ((List.mem_cons.1 h).resolve_left (fun e2 => e e2.symm))
      omega
/-- the free blocks, as they should be -/
structure BI (L : LS) : Prop where
  srt : ∀ k, (L k).Pairwise (· < ·)
  al : ∀ k, ∀ f ∈ L k, 2 ^ k ∣ f
  once : ∀ g, cov L g ≤ 1
theorem not_in {L : LS} {f k : Nat} (hk : k < 9) (h : cov L f = 0) : f ∉ L k := fun hm => by
  have h1 := blkc_le_cov L k hk f
  have h2 := blkc_mem (k := k) (g := f) hm
  rw [cvr_self] at h2
  omega
theorem BI.put {L : LS} (h : BI L) {f k : Nat} (hk : k < 9) (ha : 2 ^ k ∣ f) (h0 : ∀ g, f ≤ g → g < f + 2 ^ k → cov L g = 0) :
    BI (updL L k (ins f (L k))) ∧ (∀ g, cov (updL L k (ins f (L k))) g = cov L g + cvr f k g) ∧ left (updL L k (ins f (L k))) = left L + 2 ^ k := by
  have hc : ∀ g, cov (updL L k (ins f (L k))) g = cov L g + cvr f k g := fun g => by
    have := cov_upd L k (ins f (L k)) hk g
    rw [blkc_ins] at this
    omega
  have hl : left (updL L k (ins f (L k))) = left L + 2 ^ k := by
    have := left_upd L k (ins f (L k)) hk
    rw [len_ins, Nat.add_mul] at this
    omega
  refine ⟨⟨fun j => ?_, fun j x hx => ?_, fun g => ?_⟩, hc, hl⟩
  · unfold updL
    split
    · exact sorted_ins (h.srt k) (not_in hk (h0 f (Nat.le_refl _) (by have := Nat.two_pow_pos k; omega)))
    · exact h.srt j
  · unfold updL at hx
    split at hx
    · rename_i e
      subst e
      rcases mem_ins.1 hx with rfl | hx
      · exact ha
      · exact h.al j x hx
    · exact h.al j x hx
  · rw [hc]
    have := h.once g
    unfold cvr
    split
    · rename_i hg
      have := h0 g hg.1 hg.2
      omega
    · omega
theorem BI.take {L : LS} (h : BI L) {f k : Nat} (hk : k < 9) (hf : f ∈ L k) :
    BI (updL L k ((L k).erase f)) ∧ (∀ g, cov (updL L k ((L k).erase f)) g + cvr f k g = cov L g) ∧ left (updL L k ((L k).erase f)) + 2 ^ k = left L := by
  have hc : ∀ g, cov (updL L k ((L k).erase f)) g + cvr f k g = cov L g := fun g => by
    have := cov_upd L k ((L k).erase f) hk g
    have := blkc_erase k g hf
    omega
  have hl : left (updL L k ((L k).erase f)) + 2 ^ k = left L := by
    have h1 := left_upd L k ((L k).erase f) hk
    have h2 := List.length_erase_of_mem hf
    have h3 : 0 < (L k).length := List.length_pos_of_mem hf
    have h4 : (L k).length * 2 ^ k = ((L k).erase f).length * 2 ^ k + 2 ^ k := by
      rw [h2, ← Nat.succ_mul]; congr 1; omega
    omega
  refine ⟨⟨fun j => ?_, fun j x hx => ?_, fun g => ?_⟩, hc, hl⟩
  · unfold updL
    split
    · exact (h.srt k).sublist List.erase_sublist
    · exact h.srt j
  · unfold updL at hx
    split at hx
    · rename_i e
      subst e
      exact h.al j x (List.mem_of_mem_erase hx)
    · exact h.al j x hx
  · have := hc g
    have := h.once g
    omega
/-- a block, halved down to a frame -/
def halve : LS → Nat → Nat → LS
  | L, _, 0 => L
  | L, f, k + 1 => halve (updL L k (ins (f + 2 ^ k) (L k))) f k
theorem BI.halved : ∀ {k : Nat} {L : LS} {f : Nat}, BI L → k < 9 → 2 ^ k ∣ f → (∀ g, f ≤ g → g < f + 2 ^ k → cov L g = 0) →
    BI (halve L f k) ∧ (∀ g, cov (halve L f k) g = cov L g + if f < g ∧ g < f + 2 ^ k then 1 else 0) ∧ left (halve L f k) + 1 = left L + 2 ^ k
  | 0, L, f, h, _, _, _ => ⟨h, fun g => by rw [halve, if_neg (by omega)]; omega, by simp [halve]⟩
  | k + 1, L, f, h, hk, ha, h0 => by
    have hp := Nat.two_pow_pos k
    have e2 : 2 ^ (k + 1) = 2 * 2 ^ k := by rw [Nat.pow_succ, Nat.mul_comm]
    have hak : 2 ^ k ∣ f := Nat.dvd_trans ⟨2, by rw [e2, Nat.mul_comm]⟩ ha
    obtain ⟨g1, g2, g3⟩ := h.put (f := f + 2 ^ k) (k := k) (by omega) ((Nat.dvd_add_right hak).2 (Nat.dvd_refl _)) (fun g a b => h0 g (by omega) (by rw [e2]; omega))
    obtain ⟨i1, i2, i3⟩ := BI.halved (k := k) g1 (by omega) hak (fun g a b => by
      rw [g2, h0 g a (by rw [e2]; omega)]
      unfold cvr
      rw [if_neg (by omega)])
    rw [halve]
    refine ⟨i1, fun g => ?_, by rw [e2]; omega⟩
    rw [i2, g2]
    unfold cvr
    rw [e2]
    by_cases a : f < g ∧ g < f + 2 ^ k
    · rw [if_pos a, if_neg (by omega), if_pos (by omega)]
    · rw [if_neg a]
      by_cases b : f + 2 ^ k ≤ g ∧ g < f + 2 ^ k + 2 ^ k
      · rw [if_pos b, if_pos (by omega)]
      · rw [if_neg b, if_neg (by omega)]
end Go.Proofs.Ytehmjjfgefopdaa
