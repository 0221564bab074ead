/- Lemmas on blocks whose cells are given by a function of the place. -/
import Derived.Test.YtehmjjfgefopdaaLibS
import Derived.Deep.MidRow
namespace Go.Proofs.Ytehmjjfgefopdaa
open Go.RowKit

/-- n cells, by their places -/
def blk (f : Nat → Value) (n : Nat) : Array Value := ((List.range n).map f).toArray
theorem blk_size (f : Nat → Value) (n : Nat) : (blk f n).size = n := by simp [blk]
theorem blk_get (f : Nat → Value) {n i : Nat} (h : i < n) : (blk f n)[i]? = some (f i) := by simp [blk, h]
def upd (f : Nat → Value) (i : Nat) (v : Value) : Nat → Value := fun j => if j = i then v else f j
def updR (f : Nat → Value) (o : Nat) (vs : List Value) : Nat → Value := fun j => if o ≤ j ∧ j < o + vs.length then vs.getD (j - o) undef else f j
theorem blk_congr {f g : Nat → Value} {n : Nat} (h : ∀ i, i < n → f i = g i) : blk f n = blk g n := by
  unfold blk
  rw [List.map_congr_left (fun i hi => h i (by simpa using hi))]
theorem blk_set (f : Nat → Value) (n i : Nat) (v : Value) : (blk f n).setIfInBounds i v = blk (upd f i v) n := by
  apply Array.ext
  · simp [blk]
  · intro j h1 h2
    have hj : j < n := by simpa [blk] using h2
    rw [Array.getElem_setIfInBounds (by simpa [blk] using hj)]
    by_cases e : i = j
    · subst e; simp [blk, upd]
    · have e2 : ¬ j = i := fun h => e h.symm
      simp [blk, upd, e, e2]
theorem blk_of_array (cs : Array Value) : cs = blk (fun i => cs.getD i undef) cs.size := by
  apply Array.ext
  · simp [blk]
  · intro j h1 h2
    simp [blk, h1]

section
variable {w : World} {p n : Nat} {f : Nat → Value} {t : TypeId}

theorem blk_cell (h : ob w p = some (.cells (blk f n) t (0, 0))) {i : Nat} (hi : i < n) : w.cell? ⟨p, i, none⟩ = some (f i) := by rw [cell_of_ob h]; exact blk_get f hi
theorem blk_store (h : ob w p = some (.cells (blk f n) t (0, 0))) (i : Nat) (v : Value) : ob (w.setCell ⟨p, i, none⟩ v) p = some (.cells (blk (upd f i v) n) t (0, 0)) := by
  rw [st_same h, blk_set]
theorem blk_range (h : ob w p = some (.cells (blk f n) t (0, 0))) {o : Nat} {cs : List Value} (hn : o + cs.length ≤ n) (hc : ∀ j, j < cs.length → cs[j]? = some (f (o + j))) : w.rangeAt p o cs := by
  intro j v hv
  have hj := (List.getElem?_eq_some_iff.1 hv).1
  rw [blk_cell h (by omega), ← hc j hj, hv]
theorem blk_there (h : ob w p = some (.cells (blk f n) t (0, 0))) {o k : Nat} (hn : o + k ≤ n) : w.there p o k := by
  intro j hj
  exact ⟨by rw [blk_cell h (by omega)]; rfl, free_of_ob h _⟩
theorem ob_setCells : ∀ (vs : List Value) (o : Nat) (w : World) (k : Nat), k ≠ p → ob (w.setCells p o vs) k = ob w k
  | [], _, _, _, _ => rfl
  | v :: vs, o, w, k, h => by
    rw [World.setCells, ob_setCells vs (o + 1) _ k h, ob_setCell, if_neg h]
theorem size_setCells : ∀ (vs : List Value) (o : Nat) (w : World), (w.setCells p o vs).heap.size = w.heap.size
  | [], _, _ => rfl
  | v :: vs, o, w => by rw [World.setCells, size_setCells vs (o + 1)]; simp
theorem blk_storeR : ∀ (vs : List Value) (o : Nat) (w : World) (f : Nat → Value), ob w p = some (.cells (blk f n) t (0, 0)) → ob (w.setCells p o vs) p = some (.cells (blk (updR f o vs) n) t (0, 0))
  | [], o, w, f, h => by
    rw [World.setCells, h]
    rw [blk_congr (f := updR f o []) (g := f)]
    intro i _; simp [updR]; omega
  | v :: vs, o, w, f, h => by
    rw [World.setCells, blk_storeR vs (o + 1) _ _ (blk_store h o v)]
    rw [blk_congr (f := updR (upd f o v) (o + 1) vs) (g := updR f o (v :: vs))]
    intro i _
    unfold updR upd
    by_cases h1 : i = o
    · subst h1; simp; omega
    · by_cases h2 : o + 1 ≤ i ∧ i < o + 1 + vs.length
      · rw [if_pos h2, if_pos (by simp; omega), show i - o = (i - (o + 1)) + 1 by omega]; simp
      · rw [if_neg h2, if_neg h1, if_neg (by simp; omega)]
theorem Keep.setCells {S : List Nat} {a w : World} (h : Keep S a w) {b : Nat} (hb : b ∈ S ∨ a.heap.size ≤ b) : ∀ (vs : List Value) (o : Nat), Keep S a (w.setCells b o vs) := by
  intro vs
  induction vs generalizing w with
  | nil => intro o; exact h
  | cons v vs ih => intro o; rw [World.setCells]; exact ih (h.setCell hb o v) (o + 1)
end
end Go.Proofs.Ytehmjjfgefopdaa
