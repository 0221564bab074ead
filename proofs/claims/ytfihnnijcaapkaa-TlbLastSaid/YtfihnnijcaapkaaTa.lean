import Derived.Test.YtfihnnijcaapkaaLibT
import Derived.Test.YtfihnnijcaapkaaRows
import Derived.Deep.LoopGhost
import Derived.Deep.CutRange
import Derived.Deep.CutBlock
import Derived.Deep.QuietTactic
import Derived.BigQuiet
namespace Go.Proofs.Ytfihnnijcaapkaa
open Go.RowKit
set_option linter.unusedSimpArgs false
set_option linter.unusedVariables false
attribute [local go_sem] ob_alloc ob_drew ob_drewN ob_setCell ob_setBlock objSet_cells obMap_map obClock_map isMapI_map keyI_mk findI_nil findI_cons lookRes_some lookRes_none lookRes_some' lookRes_none' setBlock_alloc mapPut

/-! ### the buffer of lines: the plain law -/
structure Ln where
  a : Int
  p : Int
  f : Int
  w : Bool
  deriving DecidableEq
def lnE : Enc Ln 4 := ⟨fun l => [.int .i64 l.a, .int .i64 l.p, .int .i64 l.f, .bool l.w], fun _ => rfl, fun l u hu => by
  simp at hu
  rcases hu with rfl | rfl | rfl | rfl <;> rfl⟩
def lnV (l : Ln) : Value := .agg #[.int .i64 l.a, .int .i64 l.p, .int .i64 l.f, .bool l.w]
def lnO (l : Ln) : Obj := .cells #[.int .i64 l.a, .int .i64 l.p, .int .i64 l.f, .bool l.w] 29 (0, 0)
def eqK (a p : Int) : Option Ln → Bool
  | some l => l.a == a && l.p == p
  | none => false
def eqA (a : Int) : Option Ln → Bool
  | some l => l.a == a
  | none => false
def firstP (pr : Option Ln → Bool) (S : Nat → Option Ln) : Nat → Option Nat
  | 0 => none
  | k + 1 => match firstP pr S k with
    | some i => some i
    | none => if pr (S k) then some k else none
theorem firstP_some {pr : Option Ln → Bool} {S : Nat → Option Ln} : ∀ {k i : Nat}, firstP pr S k = some i → i < k ∧ pr (S i) = true ∧ ∀ j, j < i → pr (S j) = false
  | 0, i, h => by cases h
  | k + 1, i, h => by
    unfold firstP at h
    cases h1 : firstP pr S k with
    | some i' =>
      rw [h1] at h
      cases h
      have := firstP_some h1
      exact ⟨by omega, this.2⟩
    | none =>
      rw [h1] at h
      simp only at h
      split at h
      · cases h
        rename_i h2
        refine ⟨by omega, h2, ?_⟩
        have : ∀ k, firstP pr S k = none → ∀ j, j < k → pr (S j) = false := by
          intro k
          induction k with
          | zero => intro _ j hj; omega
          | succ k ih =>
            intro h j hj
            unfold firstP at h
            cases h3 : firstP pr S k with
            | some _ => rw [h3] at h; cases h
            | none =>
              rw [h3] at h
              simp only at h
              split at h
              · cases h
              · rename_i h4
                by_cases e : j = k
                · subst e; simpa using h4
                · exact ih h3 j (by omega)
        exact this k h1
      · cases h
theorem firstP_none {pr : Option Ln → Bool} {S : Nat → Option Ln} : ∀ {k : Nat}, firstP pr S k = none ↔ ∀ j, j < k → pr (S j) = false
  | 0 => by simp [firstP]
  | k + 1 => by
    unfold firstP
    constructor
    · intro h j hj
      cases h3 : firstP pr S k with
      | some _ => rw [h3] at h; cases h
      | none =>
        rw [h3] at h
        simp only at h
        split at h
        · cases h
        · rename_i h4
          by_cases e : j = k
          · subst e; simpa using h4
          · exact firstP_none.1 h3 j (by omega)
    · intro h
      rw [firstP_none.2 (fun j hj => h j (by omega))]
      simp [h k (by omega)]
theorem firstP_eq {pr : Option Ln → Bool} {S : Nat → Option Ln} {k i : Nat} (hi : i < k) (h1 : pr (S i) = true) (h2 : ∀ j, j < i → pr (S j) = false) : firstP pr S k = some i := by
  cases h : firstP pr S k with
  | none => have := firstP_none.1 h i hi; rw [h1] at this; cases this
  | some j =>
    obtain ⟨g1, g2, g3⟩ := firstP_some h
    rcases Nat.lt_trichotomy i j with e | e | e
    · have := g3 i e; rw [h1] at this; cases this
    · rw [e]
    · have := h2 j e; rw [g2] at this; cases this
theorem firstP_congr {pr : Option Ln → Bool} {S T : Nat → Option Ln} : ∀ {k : Nat}, (∀ i, i < k → S i = T i) → firstP pr S k = firstP pr T k
  | 0, _ => rfl
  | k + 1, h => by unfold firstP; rw [firstP_congr (fun i hi => h i (by omega)), h k (by omega)]
def goI : Option Nat → Int
  | none => -1
  | some i => i
def upS (S : Nat → Option Ln) (i : Nat) (o : Option Ln) : Nat → Option Ln := fun j => if j = i then o else S j
def rightB (l : Ln) : Bool := decide (1 ≤ l.a ∧ l.a ≤ 8 ∧ 0 ≤ l.p ∧ l.p ≤ 4095 ∧ 0 ≤ l.f ∧ l.f ≤ 255)
def okPut (l : Ln) (at' : Int) : Bool := rightB l && decide (0 ≤ at' ∧ at' ≤ 7)
def placeR (S : Nat → Option Ln) (l : Ln) (at' : Int) : Nat := match firstP (eqK l.a l.p) S 8 with
  | some i => i
  | none => match firstP Option.isNone S 8 with
    | some i => i
    | none => at'.toNat
def putS (S : Nat → Option Ln) (l : Ln) (at' : Int) : Nat → Option Ln := if okPut l at' then upS S (placeR S l at') (some l) else S
def putR (l : Ln) (at' : Int) : Int := if okPut l at' then 0 else 1
def dropS (pr : Option Ln → Bool) (S : Nat → Option Ln) : Nat → Option Ln := fun i => if pr (S i) then none else S i
def dropN (pr : Option Ln → Bool) (S : Nat → Option Ln) : Nat → Nat
  | 0 => 0
  | k + 1 => dropN pr S k + if pr (S k) then 1 else 0
theorem dropN_le (pr : Option Ln → Bool) (S : Nat → Option Ln) : ∀ k, dropN pr S k ≤ k
  | 0 => Nat.le_refl _
  | k + 1 => by have := dropN_le pr S k; unfold dropN; split <;> omega
/-- those of the first k that are there -/
def linesR (S : Nat → Option Ln) : Nat → List Ln
  | 0 => []
  | k + 1 => linesR S k ++ (S k).toList
theorem linesR_len (S : Nat → Option Ln) : ∀ k, (linesR S k).length ≤ k
  | 0 => Nat.le_refl _
  | k + 1 => by
    have := linesR_len S k
    unfold linesR
    rw [List.length_append]
    cases S k <;> simp <;> omega
def findR (S : Nat → Option Ln) (a p : Int) : Option Ln := match firstP (eqK a p) S 8 with
  | some i => S i
  | none => none
theorem eqK_some {a p : Int} {o : Option Ln} (h : eqK a p o = true) : ∃ l, o = some l ∧ l.a = a ∧ l.p = p := by
  cases o with
  | none => cases h
  | some l => simp [eqK] at h; exact ⟨l, rfl, h⟩
def Uniq (S : Nat → Option Ln) : Prop := ∀ i j, i < 8 → j < 8 → ∀ l l', S i = some l → S j = some l' → l.a = l'.a → l.p = l'.p → i = j
theorem Uniq.none : Uniq (fun _ => none) := by intro i j _ _ l l' h; cases h
theorem Uniq.drop {S : Nat → Option Ln} (h : Uniq S) (pr : Option Ln → Bool) : Uniq (dropS pr S) := by
  intro i j hi hj l l' h1 h2 ha hp
  unfold dropS at h1 h2
  split at h1
  · cases h1
  · split at h2
    · cases h2
    · exact h i j hi hj l l' h1 h2 ha hp
theorem placeR_lt {S : Nat → Option Ln} {l : Ln} {at' : Int} (h : okPut l at' = true) : placeR S l at' < 8 := by
  unfold placeR
  split
  · rename_i i h1; exact (firstP_some h1).1
  · split
    · rename_i i h1; exact (firstP_some h1).1
    · simp [okPut] at h; omega
theorem Uniq.put {S : Nat → Option Ln} (h : Uniq S) (l : Ln) (at' : Int) : Uniq (putS S l at') := by
  unfold putS
  split
  · rename_i hok
    -- another place does not hold these numbers
    have key : ∀ i, i < 8 → i ≠ placeR S l at' → ∀ l', S i = some l' → ¬ (l'.a = l.a ∧ l'.p = l.p) := by
      intro i hi hne l' hl ⟨ha, hp⟩
      unfold placeR at hne
      cases h1 : firstP (eqK l.a l.p) S 8 with
      | some j =>
        rw [h1] at hne
        obtain ⟨hj, h2, _⟩ := firstP_some h1
        obtain ⟨l2, h3, h4, h5⟩ := eqK_some h2
        exact hne (h i j hi hj l' l2 hl h3 (by rw [ha, h4]) (by rw [hp, h5]))
      | none =>
        have := firstP_none.1 h1 i hi
        rw [hl] at this
        simp [eqK, ha, hp] at this
    intro i j hi hj l1 l2 h1 h2 ha hp
    unfold upS at h1 h2
    split at h1
    · rename_i e1
      split at h2
      · rename_i e2; rw [e1, e2]
      · rename_i e2
        cases h1
        exact absurd ⟨ha.symm, hp.symm⟩ (key j hj e2 l2 h2)
    · rename_i e1
      split at h2
      · cases h2
        exact absurd ⟨ha, hp⟩ (key i hi e1 l1 h1)
      · exact h i j hi hj l1 l2 h1 h2 ha hp
  · exact h

/-! ### in memory -/
def ptV (S : Nat → Option Ln) (P : Nat → Nat) : Nat → Value := fun i => .pointer ((S i).map fun _ => ⟨P i, 0, none⟩)
structure BufIs (w : World) (b : Nat) (K : List Nat) (S : Nat → Option Ln) (P : Nat → Nat) : Prop where
  hb : ob w b = some (.cells (blk (ptV S P) 8) 66 (0, 0))
  hl : ∀ i, i < 8 → ∀ l, S i = some l → ob w (P i) = some (lnO l) ∧ P i ≠ b ∧ P i ∉ K
def BufAt (w : World) (b : Nat) (K : List Nat) (S : Nat → Option Ln) : Prop := ∃ P, BufIs w b K S P
section
variable {w w' : World} {b : Nat} {K : List Nat} {S : Nat → Option Ln} {P : Nat → Nat}
theorem BufIs.keep {T : List Nat} (h : BufIs w b K S P) (hk : Keep T w w') (hb : b ∉ T) (hT : ∀ x, x ∈ T → x ∈ K ∨ w.heap.size ≤ x) : BufIs w' b K S P :=
  ⟨hk.kp h.hb hb, fun i hi l hl => by
    obtain ⟨h1, h2, h3⟩ := h.hl i hi l hl
    refine ⟨hk.kp h1 (fun hx => ?_), h2, h3⟩
    rcases hT _ hx with a | a
    · exact h3 a
    · have := ob_lt h1; omega⟩
theorem BufAt.keep {T : List Nat} (h : BufAt w b K S) (hk : Keep T w w') (hb : b ∉ T) (hT : ∀ x, x ∈ T → x ∈ K ∨ w.heap.size ≤ x) : BufAt w' b K S := by
  obtain ⟨P, h⟩ := h
  exact ⟨P, h.keep hk hb hT⟩
theorem BufAt.addK {K' : List Nat} (h : BufAt w b K S) (hK : ∀ x, x ∈ K' → x ∈ K ∨ w.heap.size ≤ x) : BufAt w b K' S := by
  obtain ⟨P, h⟩ := h
  refine ⟨P, h.hb, fun i hi l hl => ?_⟩
  obtain ⟨h1, h2, h3⟩ := h.hl i hi l hl
  refine ⟨h1, h2, fun hx => ?_⟩
  rcases hK _ hx with a | a
  · exact h3 a
  · have := ob_lt h1; omega
theorem BufIs.put (h : BufIs w b K S P) (i : Nat) (hi : i < 8) (l : Ln) {c : Nat} (hc : ob w c = some (lnO l)) (h1 : c ≠ b) (h2 : c ∉ K) : BufIs (w.setCell ⟨b, i, none⟩ (.pointer (some ⟨c, 0, none⟩))) b K (upS S i (some l)) (fun j => if j = i then c else P j) := by
  refine ⟨?_, fun j hj l' hl => ?_⟩
  · rw [blk_store h.hb, blk_congr (g := ptV (upS S i (some l)) (fun j => if j = i then c else P j)) (fun j hj => ?_)]
    unfold upd ptV upS
    by_cases e : j = i
    · simp [e]
    · simp [e]
  · unfold upS at hl
    by_cases e : j = i
    · rw [if_pos e] at hl
      cases hl
      simp only [if_pos e]
      exact ⟨st hc h1, h1, h2⟩
    · rw [if_neg e] at hl
      simp only [if_neg e]
      obtain ⟨g1, g2, g3⟩ := h.hl j hj l' hl
      exact ⟨st g1 g2, g2, g3⟩
theorem BufIs.clear (h : BufIs w b K S P) (i : Nat) : BufIs (w.setCell ⟨b, i, none⟩ (.pointer none)) b K (upS S i none) P := by
  refine ⟨?_, fun j hj l' hl => ?_⟩
  · rw [blk_store h.hb, blk_congr (g := ptV (upS S i none) P) (fun j hj => ?_)]
    unfold upd ptV upS
    by_cases e : j = i
    · simp [e]
    · simp [e]
  · unfold upS at hl
    by_cases e : j = i
    · rw [if_pos e] at hl; cases hl
    · rw [if_neg e] at hl
      obtain ⟨g1, g2, g3⟩ := h.hl j hj l' hl
      exact ⟨st g1 g2, g2, g3⟩
end
/-- an element of one cell, of an array by value -/
theorem run_index_one {P : Program} {t e : TypeId} {n : Nat} {i : TypeInfo} {d : TypeDesc} (ht : P.underlying t = some (.array n e)) (he : P.underlying e = some d) (hd : d.isRow = false) (hi : P.info? e = some i) (hs : i.size = 1) (f : Nat → Value) (q : Nat) (hq : q < n) (w : World) :
    (Instr.index t (.agg (blk f n)) (.int .i64 (q : Int))).run P w = .ok (f q) w := by
  have hagg : (isAgg e).run P w = .ok false w := by
    unfold isAgg
    rw [Sem.run_bind, run_underlying he w]
    cases d <;> simp_all
  have hq0 : (0 : Int) ≤ (q : Int) ∧ (q : Int) < (n : Int) := by omega
  have hg : (blk f n)[q]? = some (f q) := blk_get f hq
  simp [Instr.index, asIntOf, run_underlying ht, part, hagg, sizeOf, typeInfo, hi, hs, hq0, hq, hg]
end Go.Proofs.Ytfihnnijcaapkaa
