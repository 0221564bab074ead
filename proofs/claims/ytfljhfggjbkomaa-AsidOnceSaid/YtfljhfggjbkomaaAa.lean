import Derived.Test.YtfljhfggjbkomaaLibM
import Derived.Test.YtfljhfggjbkomaaLibO
import Derived.Laws.OwnMore
namespace Go.Proofs.Ytfljhfggjbkomaa
open Go.RowKit
set_option linter.unusedSimpArgs false
set_option linter.unusedVariables false
attribute [local go_sem] ob_alloc ob_drew ob_drewN ob_setCell ob_setBlock objSet_cells obMap_map obClock_map isMapI_map keyI_mk findI_nil findI_cons lookRes_some lookRes_none lookRes_some' lookRes_none' setBlock_alloc mapPut

/-! ### the pool, as two lists: how often each was given, and which are now -/
def i64s (xs : List Int) : List Value := xs.map (Value.int .i64)
def bools (bs : List Bool) : List Value := bs.map Value.bool
theorem i64s_length (xs : List Int) : (i64s xs).length = xs.length := List.length_map ..
theorem bools_length (xs : List Bool) : (bools xs).length = xs.length := List.length_map ..
theorem i64s_get {xs : List Int} {i : Nat} (h : i < xs.length) : (i64s xs).toArray[i]? = some (.int .i64 (xs.getD i 0)) := by
  simp [i64s, List.getElem?_eq_getElem h, List.getD]
theorem bools_get {xs : List Bool} {i : Nat} (h : i < xs.length) : (bools xs).toArray[i]? = some (.bool (xs.getD i false)) := by
  simp [bools, List.getElem?_eq_getElem h, List.getD]
theorem i64s_set (xs : List Int) (i : Nat) (x : Int) : (i64s xs).toArray.setIfInBounds i (.int .i64 x) = (i64s (xs.set i x)).toArray := by
  simp [i64s, List.map_set]
theorem bools_set (xs : List Bool) (i : Nat) (x : Bool) : (bools xs).toArray.setIfInBounds i (.bool x) = (bools (xs.set i x)).toArray := by
  simp [bools, List.map_set]
theorem zeros_i64 (n : Nat) : zeros (.int .i64 0) n = (i64s (List.replicate n 0)).toArray := by
  apply Array.ext'
  rw [zeros, toList_madeCells_one]
  simp [i64s]
theorem zeros_bool (n : Nat) : zeros (.bool false) n = (bools (List.replicate n false)).toArray := by
  apply Array.ext'
  rw [zeros, toList_madeCells_one]
  simp [bools]

def tagV (p : Int × Int) : Value := .agg #[.int .i64 p.1, .int .i64 p.2]

/-- which tag is given of a number -/
def givenF (os : List Int) (bs : List Bool) (x : Int) : Option (Int × Int) := if 1 ≤ x ∧ bs.getD (x - 1).toNat false = true then some (x, os.getD (x - 1).toNat 0) else none

structure GivenIs (l : List (Int × (Int × Int))) (os : List Int) (bs : List Bool) : Prop where
  look : ∀ x, l.lookup x = givenF os bs x
  len : l.length = bs.count true
  same : os.length = bs.length

theorem getD_set {α : Type} (xs : List α) (i j : Nat) (x d : α) : (xs.set i x).getD j d = if i = j ∧ i < xs.length then x else xs.getD j d := by
  simp only [List.getD, List.getElem?_set]
  by_cases h : i = j
  · subst h
    by_cases h2 : i < xs.length
    · simp [h2]
    · simp [h2, List.getElem?_eq_none (Nat.le_of_not_lt h2)]
  · simp [h]

theorem lookup_append {α : Type} (x : Int) (l m : List (Int × α)) : (l ++ m).lookup x = (l.lookup x).or (m.lookup x) := by
  induction l with
  | nil => simp
  | cons p l ih =>
    obtain ⟨k, a⟩ := p
    simp only [List.cons_append, List.lookup_cons]
    cases h : (x == k) <;> simp [ih]
theorem lookup_filter {α : Type} (x y : Int) (l : List (Int × α)) : (l.filter fun p => p.1 != x).lookup y = if y = x then none else l.lookup y := by
  induction l with
  | nil => simp
  | cons p l ih =>
    obtain ⟨k, a⟩ := p
    simp only [List.filter_cons]
    by_cases hk : k = x
    · subst hk
      simp only [bne_self_eq_false, Bool.false_eq_true, if_false, ih, List.lookup_cons]
      by_cases hy : y = k
      · simp [hy]
      · have : (y == k) = false := by simpa using hy
        simp [hy, this]
    · have : (k != x) = true := by simpa using hk
      simp only [this, if_true, List.lookup_cons, ih]
      by_cases hy : y = k
      · subst hy
        simp [hk]
      · have h2 : (y == k) = false := by simpa using hy
        simp [h2]

theorem count_set_true : ∀ (bs : List Bool) (j : Nat), j < bs.length → bs.getD j false = false → (bs.set j true).count true = bs.count true + 1
  | [], _, h, _ => by simp at h
  | b :: bs, 0, _, h => by simp at h; subst h; simp
  | b :: bs, j + 1, h, h2 => by
    have := count_set_true bs j (by simpa using h) (by simpa using h2)
    simp [List.count_cons, this]; omega
theorem count_set_false : ∀ (bs : List Bool) (j : Nat), bs.getD j false = true → (bs.set j false).count true + 1 = bs.count true
  | [], _, h => by simp at h
  | b :: bs, 0, h => by simp at h; subst h; simp
  | b :: bs, j + 1, h2 => by
    have := count_set_false bs j (by simpa using h2)
    simp [List.count_cons]; omega

theorem GivenIs.take {l : List (Int × (Int × Int))} {os : List Int} {bs : List Bool} (h : GivenIs l os bs) (j : Nat) (hj : j < os.length) (hb : bs.getD j false = false) (x : Int) :
    l.lookup ((j : Int) + 1) = none ∧ GivenIs (l ++ [((j : Int) + 1, ((j : Int) + 1, x))]) (os.set j x) (bs.set j true) := by
  have hj2 : j < bs.length := by rw [← h.same]; exact hj
  have h0 : l.lookup ((j : Int) + 1) = none := by
    rw [h.look, givenF, if_neg]
    rintro ⟨_, h2⟩
    rw [show ((j : Int) + 1 - 1).toNat = j by omega, hb] at h2
    cases h2
  refine ⟨h0, fun y => ?_, ?_, by simp [h.same]⟩
  · rw [lookup_append, h.look, givenF, givenF]
    by_cases hy : y = (j : Int) + 1
    · subst hy
      have e : ((j : Int) + 1 - 1).toNat = j := by omega
      rw [e, getD_set, getD_set, hb]
      simp [hj, hj2]; omega
    · have e : ((y == (j : Int) + 1)) = false := by simpa using hy
      by_cases hy1 : 1 ≤ y
      · have e2 : (bs.set j true).getD (y - 1).toNat false = bs.getD (y - 1).toNat false := by rw [getD_set, if_neg (by omega)]
        have e3 : (os.set j x).getD (y - 1).toNat 0 = os.getD (y - 1).toNat 0 := by rw [getD_set, if_neg (by omega)]
        rw [e2, e3]
        simp only [List.lookup_cons, e, List.lookup_nil, Option.or_none]
      · simp [hy1, List.lookup_cons, e]
  · rw [count_set_true bs j hj2 hb, List.length_append, h.len]; rfl

theorem GivenIs.back {l : List (Int × (Int × Int))} {os : List Int} {bs : List Bool} (h : GivenIs l os bs) (hn : (l.map (·.1)).Nodup) (x : Int) (hx : 1 ≤ x) (hb : bs.getD (x - 1).toNat false = true) :
    GivenIs (l.filter fun p => p.1 != x) os (bs.set (x - 1).toNat false) := by
  have hg : l.lookup x = some (x, os.getD (x - 1).toNat 0) := by rw [h.look, givenF, if_pos ⟨hx, hb⟩]
  have hlt : (x - 1).toNat < bs.length := by
    rcases Nat.lt_or_ge (x - 1).toNat bs.length with h1 | h1
    · exact h1
    · rw [List.getD, List.getElem?_eq_none h1] at hb; cases hb
  refine ⟨fun y => ?_, ?_, by simp [h.same]⟩
  · rw [lookup_filter, h.look, givenF, givenF]
    by_cases hy : y = x
    · subst hy
      have e2 : (bs.set (y - 1).toNat false).getD (y - 1).toNat false = false := by rw [getD_set, if_pos ⟨rfl, hlt⟩]
      rw [e2]
      simp
    · rw [if_neg hy]
      by_cases hy1 : 1 ≤ y
      · have e2 : (bs.set (x - 1).toNat false).getD (y - 1).toNat false = bs.getD (y - 1).toNat false := by rw [getD_set, if_neg (by omega)]
        rw [e2]
      · simp [hy1]
  · have h1 := count_set_false bs _ hb
    have hmem := lookup_some_get hg
    obtain ⟨i, hi⟩ := List.mem_iff_getElem?.1 hmem
    rw [← erase_filter hn hi, List.length_eraseIdx, if_pos (List.getElem?_eq_some_iff.1 hi).1, h.len]
    omega

theorem GivenIs.start (n : Nat) : GivenIs [] (List.replicate n 0) (List.replicate n false) := by
  refine ⟨fun x => ?_, by simp [List.count_replicate], by simp⟩
  rw [givenF, if_neg]
  · rfl
  · rintro ⟨_, h⟩
    simp only [List.getD, List.getElem?_replicate] at h
    split at h <;> simp at h

/-- the pool at p -/
def PoolAt (w : World) (p : Nat) (L : List Nat) (os : List Int) (bs : List Bool) : Prop :=
  ∃ g m l, g ∉ L ∧ m ∉ L ∧ g ≠ p ∧ m ≠ p ∧ g ≠ m ∧ ob w p = some (.cells #[.slice (some ⟨g, 0, none⟩) os.length os.length, .map (some m)] 129 (0, 0)) ∧ ob w g = some (.cells (i64s os).toArray 3 (0, 0)) ∧ MapL w m .i64 tagV l ∧ GivenIs l os bs ∧ 1 ≤ os.length ∧ os.length ≤ 8
/-- the reference's -/
def RPoolAt (w : World) (p : Nat) (L : List Nat) (os : List Int) (bs : List Bool) : Prop :=
  ∃ g m, g ∉ L ∧ m ∉ L ∧ g ≠ p ∧ m ≠ p ∧ g ≠ m ∧ ob w p = some (.cells #[.slice (some ⟨g, 0, none⟩) os.length os.length, .slice (some ⟨m, 0, none⟩) os.length os.length] 132 (0, 0)) ∧ ob w g = some (.cells (i64s os).toArray 3 (0, 0)) ∧
    ob w m = some (.cells (bools bs).toArray 4 (0, 0)) ∧ os.length = bs.length ∧ 1 ≤ os.length ∧ os.length ≤ 8

theorem PoolAt.keep {S : List Nat} {w w' : World} {p : Nat} {L : List Nat} {os : List Int} {bs : List Bool} (h : PoolAt w p L os bs) (hk : Keep S w w') (hp : p ∉ S) (hS : ∀ x, x ∈ S → x ∈ L ∨ w.heap.size ≤ x) : PoolAt w' p L os bs := by
  obtain ⟨g, m, l, hg, hm, h1, h2, h3, h4, h5, h6, h7⟩ := h
  have hg' : g ∉ S := fun hx => by rcases hS g hx with a | a; exact hg a; have := ob_lt h5; omega
  have hm' : m ∉ S := fun hx => by rcases hS m hx with a | a; exact hm a; have := h6.lt; omega
  exact ⟨g, m, l, hg, hm, h1, h2, h3, hk.kp h4 hp, hk.kp h5 hg', h6.keep hk hm', h7⟩
theorem RPoolAt.keep {S : List Nat} {w w' : World} {p : Nat} {L : List Nat} {os : List Int} {bs : List Bool} (h : RPoolAt w p L os bs) (hk : Keep S w w') (hp : p ∉ S) (hS : ∀ x, x ∈ S → x ∈ L ∨ w.heap.size ≤ x) : RPoolAt w' p L os bs := by
  obtain ⟨g, m, hg, hm, h1, h2, h3, h4, h5, h6, h7⟩ := h
  have hg' : g ∉ S := fun hx => by rcases hS g hx with a | a; exact hg a; have := ob_lt h5; omega
  have hm' : m ∉ S := fun hx => by rcases hS m hx with a | a; exact hm a; have := ob_lt h6; omega
  exact ⟨g, m, hg, hm, h1, h2, h3, hk.kp h4 hp, hk.kp h5 hg', hk.kp h6 hm', h7⟩

/-- the one that is given next, of the first k: the least often given, the first of those -/
def bestK (os : List Int) (bs : List Bool) : Nat → Option Nat
  | 0 => none
  | k + 1 => if bs.getD k false then bestK os bs k else match bestK os bs k with
    | none => some k
    | some j => if os.getD k 0 < os.getD j 0 then some k else some j
theorem bestK_lt {os : List Int} {bs : List Bool} : ∀ {k j : Nat}, bestK os bs k = some j → j < k ∧ bs.getD j false = false
  | 0, j, h => by simp [bestK] at h
  | k + 1, j, h => by
    unfold bestK at h
    split at h
    · have := bestK_lt h; exact ⟨by omega, this.2⟩
    · rename_i hb
      have hb' : bs.getD k false = false := by simpa using hb
      split at h
      · cases h; exact ⟨by omega, hb'⟩
      · rename_i j' hj'
        have := bestK_lt hj'
        split at h
        · cases h; exact ⟨by omega, hb'⟩
        · cases h; exact ⟨by omega, this.2⟩
end Go.Proofs.Ytfljhfggjbkomaa
