import Derived.Test.YtfihnnijcaapkaaLibW
namespace Go.Proofs.Ytfihnnijcaapkaa
open Go.RowKit
set_option linter.unusedSimpArgs false
set_option linter.unusedVariables false
attribute [local go_sem] ob_alloc ob_drew ob_drewN ob_setCell ob_setBlock objSet_cells obMap_map obClock_map isMapI_map keyI_mk findI_nil findI_cons lookRes_some lookRes_none lookRes_some' lookRes_none' setBlock_alloc mapPut

/-! ### owners: the plain law -/
def ocnt (L : Nat → Int) (x : Int) : Nat → Int
  | 0 => 0
  | k + 1 => ocnt L x k + if L k = x then 1 else 0
theorem ocnt_succ (L : Nat → Int) (x : Int) (k : Nat) : ocnt L x (k + 1) = ocnt L x k + if L k = x then 1 else 0 := rfl
theorem ocnt_bd (L : Nat → Int) (x : Int) : ∀ k, 0 ≤ ocnt L x k ∧ ocnt L x k ≤ k
  | 0 => by simp [ocnt]
  | k + 1 => by have := ocnt_bd L x k; rw [ocnt_succ]; split <;> omega
theorem ocnt_none (L : Nat → Int) (x : Int) : ∀ k, (∀ i, i < k → L i ≠ x) → ocnt L x k = 0
  | 0, _ => rfl
  | k + 1, h => by rw [ocnt_succ, ocnt_none L x k (fun i hi => h i (by omega)), if_neg (h k (by omega))]; rfl
def setL (L : Nat → Int) (F K : Nat) (x : Int) : Nat → Int := fun i => if F ≤ i ∧ i < F + K then x else L i
def allB (L : Nat → Int) (F K : Nat) (x : Int) : Bool := (List.range K).all fun i => L (F + i) == x
theorem allB_iff {L : Nat → Int} {F K : Nat} {x : Int} : allB L F K x = true ↔ ∀ i, i < K → L (F + i) = x := by
  unfold allB; simp
theorem allB_at {L : Nat → Int} {F K : Nat} {x : Int} (h : allB L F K x = true) {i : Nat} (h1 : F ≤ i) (h2 : i < F + K) : L i = x := by
  have := allB_iff.1 h (i - F) (by omega)
  rwa [show F + (i - F) = i by omega] at this
/-- how many of the first k lie among the K from F on -/
def ovl (F K k : Nat) : Nat := min k (F + K) - min k F
theorem ocnt_set (L : Nat → Int) (F K : Nat) (x z y : Int) (h : allB L F K z = true) : ∀ k, ocnt (setL L F K x) y k = ocnt L y k + (ovl F K k : Int) * ((if x = y then 1 else 0) - (if z = y then 1 else 0))
  | 0 => by simp [ocnt, ovl]
  | k + 1 => by
    rw [ocnt_succ, ocnt_succ, ocnt_set L F K x z y h k]
    by_cases hk : F ≤ k ∧ k < F + K
    · have e : ovl F K (k + 1) = ovl F K k + 1 := by unfold ovl; omega
      have e1 : setL L F K x k = x := by unfold setL; rw [if_pos hk]
      rw [e, e1, allB_at h hk.1 hk.2, Int.natCast_add, Int.add_mul]
      simp only [Int.natCast_one, Int.one_mul]
      omega
    · have e : ovl F K (k + 1) = ovl F K k := by unfold ovl; omega
      have e1 : setL L F K x k = L k := by unfold setL; rw [if_neg hk]
      rw [e, e1]
      omega
theorem ovl_all {F K n : Nat} (h : F + K ≤ n) : ovl F K n = K := by unfold ovl; omega
theorem ocnt_give {L : Nat → Int} {F K n : Nat} {x : Int} (hx : 0 ≤ x) (h : allB L F K (-1) = true) (hn : F + K ≤ n) (y : Int) (hy : 0 ≤ y) : ocnt (setL L F K x) y n = ocnt L y n + if x = y then (K : Int) else 0 := by
  rw [ocnt_set L F K x (-1) y h n, ovl_all hn, if_neg (show ¬ (-1 : Int) = y by omega)]
  split <;> simp
theorem ocnt_take {L : Nat → Int} {F K n : Nat} {x : Int} (hx : 0 ≤ x) (h : allB L F K x = true) (hn : F + K ≤ n) (y : Int) (hy : 0 ≤ y) : ocnt (setL L F K (-1)) y n = ocnt L y n - if x = y then (K : Int) else 0 := by
  rw [ocnt_set L F K (-1) x y h n, ovl_all hn, if_neg (show ¬ (-1 : Int) = y by omega)]
  split
  · simp; try omega
  · simp

/-- a state: whose frames are, how many each may have -/
structure OInv (n : Nat) (L M H : Nat → Int) : Prop where
  lo : ∀ i, i < n → -1 ≤ L i ∧ L i ≤ 8
  ml : ∀ x, x < 9 → 0 ≤ M x ∧ M x ≤ 256
  hh : ∀ x : Nat, x < 9 → H x = ocnt L x n
  hm : ∀ x : Nat, x < 9 → ocnt L x n ≤ M x
  n1 : 1 ≤ n
  n2 : n ≤ 256
theorem OInv.start {n : Nat} (h1 : 1 ≤ n) (h2 : n ≤ 256) : OInv n (fun _ => -1) (fun _ => 256) (fun _ => 0) := by
  have e : ∀ x : Nat, ocnt (fun _ => -1) x n = 0 := fun x => ocnt_none _ _ n (fun i _ => by show (-1 : Int) ≠ x; omega)
  exact ⟨by simp, by simp, fun x _ => (e x).symm, fun x _ => by rw [e x]; simp, h1, h2⟩

def mayB (x : Int) : Bool := decide (0 ≤ x ∧ x ≤ 8)
theorem mayB_out {x : Int} (h : mayB x = true) : ∃ k : Nat, x = k ∧ k < 9 := by
  have h : 0 ≤ x ∧ x ≤ 8 := by simpa [mayB] using h
  exact ⟨x.toNat, by omega, by omega⟩
def areB (n : Nat) (f m : Int) : Bool := decide (1 ≤ m ∧ m ≤ n ∧ 0 ≤ f ∧ f ≤ n - m)
theorem areB_out {n : Nat} {f m : Int} (h : areB n f m = true) : ∃ F K : Nat, f = F ∧ m = K ∧ 1 ≤ K ∧ F + K ≤ n := by
  have h : 1 ≤ m ∧ m ≤ (n : Int) ∧ 0 ≤ f ∧ f ≤ (n : Int) - m := by unfold areB at h; exact of_decide_eq_true h
  exact ⟨f.toNat, m.toNat, by omega, by omega, by omega, by omega⟩
def giveR (n : Nat) (L M : Nat → Int) (f m x : Int) : Int :=
  if mayB x = true ∧ areB n f m = true then if allB L f.toNat m.toNat (-1) = true then if ocnt L x n + m > M x.toNat then 12 else 0 else 4 else 1
def giveL (n : Nat) (L M : Nat → Int) (f m x : Int) : Nat → Int := if giveR n L M f m x = 0 then setL L f.toNat m.toNat x else L
def giveH (n : Nat) (L M H : Nat → Int) (f m x : Int) : Nat → Int := if giveR n L M f m x = 0 then updW H x.toNat (H x.toNat + m) else H
def takeR (n : Nat) (L : Nat → Int) (f m x : Int) : Int :=
  if mayB x = true ∧ areB n f m = true then if allB L f.toNat m.toNat x = true then 0 else 2 else 1
def takeL (n : Nat) (L : Nat → Int) (f m x : Int) : Nat → Int := if takeR n L f m x = 0 then setL L f.toNat m.toNat (-1) else L
def takeH (n : Nat) (L H : Nat → Int) (f m x : Int) : Nat → Int := if takeR n L f m x = 0 then updW H x.toNat (H x.toNat - m) else H
def quotaR (n : Nat) (L : Nat → Int) (x t : Int) : Int := if mayB x = true ∧ 0 ≤ t ∧ t ≤ 256 then if ocnt L x n > t then 12 else 0 else 1
def quotaM (n : Nat) (L M : Nat → Int) (x t : Int) : Nat → Int := if quotaR n L x t = 0 then updW M x.toNat t else M
def ofR (n : Nat) (L : Nat → Int) (f : Int) : Int := if 0 ≤ f ∧ f < n then L f.toNat else -1
def countR (n : Nat) (L : Nat → Int) (x : Int) : Int := if mayB x = true then ocnt L x n else 0

theorem giveR_ok {n : Nat} {L M : Nat → Int} {f m x : Int} (h : giveR n L M f m x = 0) : ∃ F K k : Nat, f = F ∧ m = K ∧ x = k ∧ k < 9 ∧ 1 ≤ K ∧ F + K ≤ n ∧ allB L F K (-1) = true ∧ ocnt L x n + m ≤ M k := by
  unfold giveR at h
  split at h
  · rename_i h1
    obtain ⟨k, rfl, hk⟩ := mayB_out h1.1
    obtain ⟨F, K, rfl, rfl, h2, h3⟩ := areB_out h1.2
    split at h
    · rename_i h4
      split at h
      · cases h
      · rename_i h5
        exact ⟨F, K, k, rfl, rfl, rfl, hk, h2, h3, h4, by simpa using h5⟩
    · cases h
  · cases h
theorem takeR_ok {n : Nat} {L : Nat → Int} {f m x : Int} (h : takeR n L f m x = 0) : ∃ F K k : Nat, f = F ∧ m = K ∧ x = k ∧ k < 9 ∧ 1 ≤ K ∧ F + K ≤ n ∧ allB L F K x = true := by
  unfold takeR at h
  split at h
  · rename_i h1
    obtain ⟨k, rfl, hk⟩ := mayB_out h1.1
    obtain ⟨F, K, rfl, rfl, h2, h3⟩ := areB_out h1.2
    split at h
    · rename_i h4
      exact ⟨F, K, k, rfl, rfl, rfl, hk, h2, h3, h4⟩
    · cases h
  · cases h
theorem quotaR_ok {n : Nat} {L : Nat → Int} {x t : Int} (h : quotaR n L x t = 0) : ∃ k : Nat, x = k ∧ k < 9 ∧ 0 ≤ t ∧ t ≤ 256 ∧ ocnt L x n ≤ t := by
  unfold quotaR at h
  split at h
  · rename_i h1
    obtain ⟨k, rfl, hk⟩ := mayB_out h1.1
    split at h
    · cases h
    · rename_i h2
      exact ⟨k, rfl, hk, h1.2.1, h1.2.2, by simpa using h2⟩
  · cases h
theorem OInv.give {n : Nat} {L M H : Nat → Int} (h : OInv n L M H) (f m x : Int) : OInv n (giveL n L M f m x) M (giveH n L M H f m x) := by
  unfold giveL giveH
  by_cases h0 : giveR n L M f m x = 0
  · rw [if_pos h0, if_pos h0]
    obtain ⟨F, K, k, rfl, rfl, rfl, hk, h1, h2, h3, h4⟩ := giveR_ok h0
    simp only [Int.toNat_natCast]
    refine ⟨fun i hi => ?_, h.ml, fun y hy => ?_, fun y hy => ?_, h.n1, h.n2⟩
    · unfold setL
      split
      · omega
      · exact h.lo i hi
    · rw [ocnt_give (by omega) h3 h2 y (by omega)]
      unfold updW
      by_cases e : y = k
      · subst e; rw [if_pos rfl, if_pos rfl, h.hh y hk]
      · rw [if_neg e, if_neg (by omega), h.hh y hy]; omega
    · rw [ocnt_give (by omega) h3 h2 y (by omega)]
      by_cases e : y = k
      · subst e; rw [if_pos rfl]; exact h4
      · rw [if_neg (by omega)]; have := h.hm y hy; omega
  · rw [if_neg h0, if_neg h0]; exact h
theorem OInv.take {n : Nat} {L M H : Nat → Int} (h : OInv n L M H) (f m x : Int) : OInv n (takeL n L f m x) M (takeH n L H f m x) := by
  unfold takeL takeH
  by_cases h0 : takeR n L f m x = 0
  · rw [if_pos h0, if_pos h0]
    obtain ⟨F, K, k, rfl, rfl, rfl, hk, h1, h2, h3⟩ := takeR_ok h0
    simp only [Int.toNat_natCast]
    refine ⟨fun i hi => ?_, h.ml, fun y hy => ?_, fun y hy => ?_, h.n1, h.n2⟩
    · unfold setL
      split
      · omega
      · exact h.lo i hi
    · rw [ocnt_take (by omega) h3 h2 y (by omega)]
      unfold updW
      by_cases e : y = k
      · subst e; rw [if_pos rfl, if_pos rfl, h.hh y hk]
      · rw [if_neg e, if_neg (by omega), h.hh y hy]; omega
    · rw [ocnt_take (by omega) h3 h2 y (by omega)]
      have := h.hm y hy
      split <;> omega
  · rw [if_neg h0, if_neg h0]; exact h
theorem OInv.quota {n : Nat} {L M H : Nat → Int} (h : OInv n L M H) (x t : Int) : OInv n L (quotaM n L M x t) H := by
  unfold quotaM
  by_cases h0 : quotaR n L x t = 0
  · rw [if_pos h0]
    obtain ⟨k, rfl, hk, h1, h2, h3⟩ := quotaR_ok h0
    simp only [Int.toNat_natCast]
    refine ⟨h.lo, fun y hy => ?_, h.hh, fun y hy => ?_, h.n1, h.n2⟩
    · unfold updW; split
      · exact ⟨h1, h2⟩
      · exact h.ml y hy
    · unfold updW; split
      · rename_i e; subst e; exact h3
      · exact h.hm y hy
  · rw [if_neg h0]; exact h
/-- no one beyond the eighth has frames -/
theorem OInv.far {n : Nat} {L M H : Nat → Int} (h : OInv n L M H) {x : Int} (hx : 8 < x) : ocnt L x n = 0 := ocnt_none _ _ n (fun i hi => by have := h.lo i hi; omega)
end Go.Proofs.Ytfihnnijcaapkaa
