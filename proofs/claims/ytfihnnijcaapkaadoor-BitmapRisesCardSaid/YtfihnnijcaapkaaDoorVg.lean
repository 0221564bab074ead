import Derived.Test.YtfihnnijcaapkaaDoorVf
namespace Go.Proofs.YtfihnnijcaapkaaDoor
open Go.RowKit
set_option linter.unusedSimpArgs false
set_option linter.unusedVariables false
open Go.Shelf
attribute [local go_sem] Oper.semAt_some

/-! ### gaps, plainly -/
def Fr (S : Nat → Bool) (many en : Int) (n : Nat) : Prop := (n : Int) + many ≤ en ∧ ∀ i : Nat, n ≤ i → (i : Int) < n + many → S i = false
def GapP (S : Nat → Bool) (many en g : Int) : Prop :=
  (g = -1 ∧ (many < 1 ∨ en < 0 ∨ 256 < en ∨ ∀ n, ¬ Fr S many en n)) ∨ (∃ n : Nat, g = n ∧ 1 ≤ many ∧ 0 ≤ en ∧ en ≤ 256 ∧ Fr S many en n ∧ ∀ m, m < n → ¬ Fr S many en m)
theorem GapP.uniq {S : Nat → Bool} {many en g g' : Int} (h : GapP S many en g) (h' : GapP S many en g') : g = g' := by
  rcases h with ⟨rfl, h⟩ | ⟨n, rfl, h1, h2, h3, h4, h5⟩
  · rcases h' with ⟨rfl, _⟩ | ⟨n, rfl, h1, h2, h3, h4, h5⟩
    · rfl
    · rcases h with h | h | h | h
      · omega
      · omega
      · omega
      · exact absurd h4 (h n)
  · rcases h' with ⟨rfl, h⟩ | ⟨m, rfl, _, _, _, k4, k5⟩
    · rcases h with h | h | h | h
      · omega
      · omega
      · omega
      · exact absurd h4 (h n)
    · rcases Nat.lt_trichotomy n m with h | h | h
      · exact absurd h4 (k5 n h)
      · rw [h]
      · exact absurd k4 (h5 m h)
def fromOf (pre : List (Fin 256)) : Nat := pre.foldl (fun _ x => x.val + 1) 0
theorem fromOf_snoc (pre : List (Fin 256)) (x : Fin 256) : fromOf (pre ++ [x]) = x.val + 1 := by simp [fromOf]
theorem fromOf_le (pre : List (Fin 256)) : fromOf pre ≤ 256 := by
  rcases List.eq_nil_or_concat pre with rfl | ⟨q, x, rfl⟩
  · simp [fromOf]
  · rw [List.concat_eq_append, fromOf_snoc]; omega
/-- no round has left -/
def NB (many en : Int) (pre : List (Fin 256)) : Prop := ∀ q x, (q ++ [x]) <+: pre → (x.val : Int) < en ∧ (x.val : Int) - fromOf q < many
theorem NB.nil (many en : Int) : NB many en [] := fun q x h => by simp at h
theorem NB.snoc {many en : Int} {pre : List (Fin 256)} {x : Fin 256} (h : NB many en pre) (h1 : (x.val : Int) < en) (h2 : (x.val : Int) - fromOf pre < many) : NB many en (pre ++ [x]) := fun q y hq => by
  rcases List.prefix_concat_iff.1 hq with e | e
  · obtain ⟨rfl, e⟩ := List.append_inj' e rfl
    simp at e
    subst e
    exact ⟨h1, h2⟩
  · exact h q y e
theorem NB.pre {many en : Int} {pre : List (Fin 256)} {x : Fin 256} (h : NB many en (pre ++ [x])) : NB many en pre ∧ (x.val : Int) < en ∧ (x.val : Int) - fromOf pre < many :=
  ⟨fun q y hq => h q y (hq.trans (List.prefix_append _ _)), h pre x (List.prefix_refl _)⟩
theorem memL_last (S : Nat → Bool) (l : List Nat) (x : Nat) : ∀ n, (l ++ [x]) <+: memL S n → x < n ∧ S x = true ∧ l = memL S x
  | 0, h => by
    have := h.length_le
    simp [memL] at this
  | n + 1, h => by
    rw [memL_succ] at h
    cases hn : S n with
    | false =>
      rw [hn] at h
      simp at h
      obtain ⟨h1, h2, h3⟩ := memL_last S l x n h
      exact ⟨by omega, h2, h3⟩
    | true =>
      rw [hn, if_pos rfl] at h
      rcases List.prefix_concat_iff.1 h with e | e
      · obtain ⟨e1, e2⟩ := List.append_inj' e rfl
        simp at e2
        subst e2
        exact ⟨by omega, hn, e1⟩
      · obtain ⟨h1, h2, h3⟩ := memL_last S l x n e
        exact ⟨by omega, h2, h3⟩
theorem pre_from (S : Nat → Bool) (pre : List (Fin 256)) (h : valL pre <+: memL S 256) : valL pre = memL S (fromOf pre) := by
  rcases List.eq_nil_or_concat pre with rfl | ⟨q, x, rfl⟩
  · rfl
  · rw [List.concat_eq_append] at h ⊢
    rw [valL_snoc] at h
    obtain ⟨h1, h2, h3⟩ := memL_last S _ _ _ h
    rw [fromOf_snoc, valL_snoc, memL_succ, h2, if_pos rfl, ← h3]
theorem memL_none {S : Nat → Bool} {a b : Nat} (h : memL S b = memL S a) (i : Nat) (h1 : a ≤ i) (h2 : i < b) : S i = false := by
  cases hi : S i with
  | false => rfl
  | true =>
    have : i ∈ memL S b := (memL_mem S).2 ⟨h2, hi⟩
    rw [h] at this
    have := ((memL_mem S).1 this).1
    omega
theorem gap_inv (S : Nat → Bool) (many en : Int) (pre : List (Fin 256)) : NB many en pre → valL pre <+: memL S 256 → ∀ m, m < fromOf pre → ¬ Fr S many en m := by
  induction hl : pre.length generalizing pre with
  | zero =>
    intro _ _ m hm
    have : pre = [] := List.eq_nil_of_length_eq_zero hl
    subst this
    simp [fromOf] at hm
  | succ n ih =>
    rcases List.eq_nil_or_concat pre with rfl | ⟨q, x, rfl⟩
    · simp at hl
    · rw [List.concat_eq_append] at hl ⊢
      intro hN hp m hm hF
      obtain ⟨hN1, hx1, hx2⟩ := hN.pre
      have hp1 : valL q <+: memL S 256 := by
        rw [valL_snoc] at hp
        exact (List.prefix_append _ _).trans hp
      rw [fromOf_snoc] at hm
      rw [valL_snoc] at hp
      obtain ⟨_, hSx, _⟩ := memL_last S _ _ _ hp
      rcases Nat.lt_or_ge m (fromOf q) with h | h
      · exact ih q (by simp at hl; exact hl) hN1 hp1 m h hF
      · have := hF.2 x.val (by omega) (by omega)
        rw [hSx] at this
        cases this
/-- all have come -/
theorem gap_done (S : Nat → Bool) (many en : Int) (h1 : 1 ≤ many) (h2 : 0 ≤ en) (h3 : en ≤ 256) (ys : List (Fin 256)) (hN : NB many en ys) (hy : valL ys = memL S 256) :
    GapP S many en (if en - fromOf ys < many then -1 else fromOf ys) := by
  have hi := gap_inv S many en ys hN (by rw [hy]; exact List.prefix_refl _)
  have hf := pre_from S ys (by rw [hy]; exact List.prefix_refl _)
  by_cases h : en - fromOf ys < many
  · rw [if_pos h]
    refine .inl ⟨rfl, .inr (.inr (.inr (fun n hF => ?_)))⟩
    rcases Nat.lt_or_ge n (fromOf ys) with g | g
    · exact hi n g hF
    · have := hF.1; omega
  · rw [if_neg h]
    refine .inr ⟨_, rfl, h1, h2, h3, ⟨by omega, fun i g1 g2 => ?_⟩, hi⟩
    exact memL_none (hy.symm.trans hf) i g1 (by omega)
/-- a round has left -/
theorem gap_stop (S : Nat → Bool) (many en : Int) (h1 : 1 ≤ many) (h2 : 0 ≤ en) (h3 : en ≤ 256) (q : List (Fin 256)) (x : Fin 256) (hN : NB many en q) (hy : valL (q ++ [x]) <+: memL S 256) (hx : en ≤ x.val ∨ many ≤ (x.val : Int) - fromOf q) :
    GapP S many en (if en - fromOf q < many then -1 else fromOf q) := by
  rw [valL_snoc] at hy
  have hq : valL q <+: memL S 256 := (List.prefix_append _ _).trans hy
  have hi := gap_inv S many en q hN hq
  have hf := pre_from S q hq
  obtain ⟨_, _, h4⟩ := memL_last S _ _ _ hy
  by_cases h : en - fromOf q < many
  · rw [if_pos h]
    refine .inl ⟨rfl, .inr (.inr (.inr (fun n hF => ?_)))⟩
    rcases Nat.lt_or_ge n (fromOf q) with g | g
    · exact hi n g hF
    · have := hF.1; omega
  · rw [if_neg h]
    refine .inr ⟨_, rfl, h1, h2, h3, ⟨by omega, fun i g1 g2 => ?_⟩, hi⟩
    exact memL_none (h4.symm.trans hf) i g1 (by omega)
end Go.Proofs.YtfihnnijcaapkaaDoor
