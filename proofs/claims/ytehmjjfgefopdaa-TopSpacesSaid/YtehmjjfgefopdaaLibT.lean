/- Slices of the walk's own, whose elements take k cells each: read, pushed, joined. -/
import Derived.Test.YtehmjjfgefopdaaLibW
import Derived.Maps.AppendAt
namespace Go.Proofs.Ytehmjjfgefopdaa
open Go.RowKit
set_option linter.unusedSimpArgs false
set_option linter.unusedVariables false

/-- how elements lie in cells -/
structure Enc (α : Type) (k : Nat) where
  f : α → List Value
  len : ∀ a, (f a).length = k
  one : ∀ a, ∀ u ∈ f a, u.oneCell' = true
section
variable {α : Type} {k : Nat} (E : Enc α k) (e : TypeId)
def Enc.flat (xs : List α) : List Value := xs.flatMap E.f
theorem Enc.flat_len (xs : List α) : (E.flat xs).length = xs.length * k := by
  induction xs with
  | nil => simp [Enc.flat]
  | cons a xs ih => simp only [Enc.flat, List.flatMap_cons, List.length_append, List.length_cons, E.len] at ih ⊢; rw [ih, Nat.add_mul]; omega
theorem Enc.flat_append (a b : List α) : E.flat (a ++ b) = E.flat a ++ E.flat b := by simp [Enc.flat]
theorem Enc.flat_one (xs : List α) : ∀ u ∈ E.flat xs, u.oneCell' = true := by
  intro u hu
  simp only [Enc.flat, List.mem_flatMap] at hu
  obtain ⟨a, _, h⟩ := hu
  exact E.one a u h
theorem Enc.flat_get {xs : List α} : ∀ {i : Nat} {a : α}, xs[i]? = some a → ∀ (j : Nat) (u : Value), (E.f a)[j]? = some u → (E.flat xs)[i * k + j]? = some u := by
  induction xs with
  | nil => intro i a h; simp at h
  | cons b xs ih =>
    intro i a h j u hu
    cases i with
    | zero =>
      simp at h; subst h
      have hj := (List.getElem?_eq_some_iff.1 hu).1
      simp only [Enc.flat, List.flatMap_cons, Nat.zero_mul, Nat.zero_add]
      rw [List.getElem?_append_left hj]; exact hu
    | succ i =>
      have := ih (i := i) (a := a) (by simpa using h) j u hu
      simp only [Enc.flat, List.flatMap_cons]
      rw [List.getElem?_append_right (by rw [E.len, Nat.add_mul]; omega), E.len, show (i + 1) * k + j - k = i * k + j by rw [Nat.add_mul]; omega]
      exact this
def RowE (w : World) (B : Nat) (v : Value) (xs : List α) : Prop := w.ownsRow B e k v xs.length (E.flat xs)
variable {E e}
theorem RowE.nil (w : World) (B : Nat) : RowE E e w B (.slice none 0 0) [] := ⟨by simp [Enc.flat], .inl ⟨rfl, rfl⟩⟩
theorem RowE.keep {S : List Nat} {w w' : World} {B : Nat} {v : Value} {xs : List α} (h : RowE E e w B v xs) (hk : Keep S w w') (hS : ∀ b, v.ownBlock = some b → b ∉ S) : RowE E e w' B v xs := owns_keep h hk hS
theorem RowE.slice {w : World} {B : Nat} {v : Value} {xs : List α} (h : RowE E e w B v xs) : ∃ va vc, v = .slice va xs.length vc := owns_slice h
theorem RowE.flatAt {w : World} {B g n cap : Nat} {xs : List α} (h : RowE E e w B (.slice (some ⟨g, 0, none⟩) n cap) xs) : n = xs.length ∧ n ≤ cap ∧ cap ≤ maxLen ∧ ∀ (j : Nat) (u : Value), (E.flat xs)[j]? = some u → w.cell? ⟨g, j, none⟩ = some u := by
  obtain ⟨hl, h | ⟨g', cap', cur, hv, hb, hg, hn, hm, hc, ht⟩⟩ := h
  · cases h.1
  · simp only [Value.slice.injEq, Option.some.injEq, Addr.mk.injEq, and_true] at hv
    obtain ⟨rfl, rfl, rfl⟩ := hv
    refine ⟨rfl, hn, hm, fun j u hj => ?_⟩
    rw [cell_of_ob (w := w) hg]
    rw [← ht, List.getElem?_take] at hj
    split at hj
    · simpa using hj
    · cases hj
theorem RowE.get {w : World} {B : Nat} {v : Value} {xs : List α} (h : RowE E e w B v xs) {i : Nat} {a : α} (hi : xs[i]? = some a) :
    ∃ g cap, v = .slice (some ⟨g, 0, none⟩) xs.length cap ∧ B ≤ g ∧ g < w.heap.size ∧ xs.length ≤ cap ∧ cap ≤ maxLen ∧ ∀ (j : Nat) (u : Value), (E.f a)[j]? = some u → w.cell? ⟨g, i * k + j, none⟩ = some u := by
  have h0 := h
  obtain ⟨hl, h | ⟨g, cap, cur, rfl, hb, hg, hn, hm, hc, ht⟩⟩ := h
  · have := (List.getElem?_eq_some_iff.1 hi).1; omega
  · obtain ⟨_, _, _, hf⟩ := RowE.flatAt h0
    exact ⟨g, cap, rfl, hb, ob_lt (w := w) hg, hn, hm, fun j u hu => hf _ u (E.flat_get hi j u hu)⟩
theorem RowE.cat {P : Program} {t : TypeId} {z : Value} {bytes : Nat} (ht : P.underlying t = some (.slice e)) (hinfo : (P.info? e).map (fun i => (i.zero, i.size, i.bytes)) = some (some z, k, bytes)) (hz : z.cells.size = k) (hk0 : 0 < k)
    {w : World} {B : Nat} {v : Value} {xs : List α} (h : RowE E e w B v xs) (ys : List α) (a : Addr) (c : Nat) (ha : ∀ (j : Nat) (u : Value), (E.flat ys)[j]? = some u → w.cell? (a.add j) = some u) (hn : xs.length + ys.length ≤ 1000000) (hby : bytes ≤ 1000) (hB : B ≤ w.heap.size) :
    ∃ va vc w', (∀ ty, (Builtin.append_ #[t, t] ty #[v, .slice (some a) ys.length c]).run P w = .ok (.slice va (xs.length + ys.length) vc) w') ∧ RowE E e w' B (.slice va (xs.length + ys.length) vc) (xs ++ ys) ∧ Keep v.ownBlock.toList w w' ∧ ((Value.slice va (xs.length + ys.length) vc).ownBlock = v.ownBlock ∨ (Value.slice va (xs.length + ys.length) vc).ownBlock = some w.heap.size) := by
  obtain ⟨i, hi, hz2⟩ := Option.map_eq_some_iff.1 hinfo
  simp only [Prod.mk.injEq] at hz2
  obtain ⟨h1, h2, h3⟩ := hz2
  have hb : (xs.length + ys.length) * bytes ≤ 140737488355328 := Nat.le_trans (Nat.mul_le_mul hn hby) (by omega)
  obtain ⟨v', w', r1, r2, r3, _, r5⟩ := run_append_own_at (w := w) B t 0 e i z k bytes ht hi h1 h2 h3 hz hk0 v xs.length (E.flat xs) h a ys.length c (E.flat ys) (E.flat_len ys) ha (E.flat_one ys) (by unfold maxLen; omega) hb hB
  obtain ⟨va, vc, rfl⟩ := owns_slice r2
  exact ⟨va, vc, w', fun ty => r1, by unfold RowE; rw [List.length_append, Enc.flat_append]; exact r2, Keep.ofGrown r3, r5⟩
/-- one more, out of a block that holds it -/
theorem RowE.push {P : Program} {t : TypeId} {z : Value} {bytes : Nat} (ht : P.underlying t = some (.slice e)) (hinfo : (P.info? e).map (fun i => (i.zero, i.size, i.bytes)) = some (some z, k, bytes)) (hz : z.cells.size = k) (hk0 : 0 < k)
    {w : World} {B : Nat} {v : Value} {xs : List α} (h : RowE E e w B v xs) (a : α) {b : Nat} (hb : ob w b = some (.cells (E.f a).toArray e (0, 0))) (c : Nat) (hn : xs.length + 1 ≤ 1000000) (hby : bytes ≤ 1000) (hB : B ≤ w.heap.size) :
    ∃ va vc w', (∀ ty, (Builtin.append_ #[t, t] ty #[v, .slice (some ⟨b, 0, none⟩) 1 c]).run P w = .ok (.slice va (xs.length + 1) vc) w') ∧ RowE E e w' B (.slice va (xs.length + 1) vc) (xs ++ [a]) ∧ Keep v.ownBlock.toList w w' ∧ ((Value.slice va (xs.length + 1) vc).ownBlock = v.ownBlock ∨ (Value.slice va (xs.length + 1) vc).ownBlock = some w.heap.size) :=
  h.cat ht hinfo hz hk0 [a] ⟨b, 0, none⟩ c (fun j u hj => by
    rw [add_mk, Nat.zero_add, cell_of_ob hb]
    simpa [Enc.flat] using hj) hn hby hB
end
end Go.Proofs.Ytehmjjfgefopdaa
