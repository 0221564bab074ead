import Derived.Test.YtfljhfggjbkomaaAk
import Derived.Maps.AppendAt
namespace Go.Proofs.Ytfljhfggjbkomaa
open Go.RowKit
set_option linter.unusedSimpArgs false
set_option linter.unusedVariables false
attribute [local go_sem] ob_alloc ob_drew ob_drewN ob_setCell ob_setBlock objSet_cells obMap_map obClock_map isMapI_map keyI_mk findI_nil findI_cons lookRes_some lookRes_none lookRes_some' lookRes_none' setBlock_alloc mapPut

/-! ### the tags that were told, as a slice of the call's own -/
def flatT (ts : List (Int × Int)) : List Value := ts.flatMap fun t => [Value.int .i64 t.1, Value.int .i64 t.2]
theorem flatT_length (ts : List (Int × Int)) : (flatT ts).length = ts.length * 2 := by
  induction ts with
  | nil => rfl
  | cons t ts ih => simp only [flatT, List.flatMap_cons, List.length_append, List.length_cons, List.length_nil] at ih ⊢; omega
theorem flatT_get {ts : List (Int × Int)} : ∀ {i : Nat} {t : Int × Int}, ts[i]? = some t → (flatT ts)[i * 2]? = some (.int .i64 t.1) ∧ (flatT ts)[i * 2 + 1]? = some (.int .i64 t.2) := by
  induction ts with
  | nil => intro i t h; simp at h
  | cons a ts ih =>
    intro i t h
    cases i with
    | zero => simp at h; subst h; exact ⟨rfl, rfl⟩
    | succ i =>
      have := ih (i := i) (t := t) (by simpa using h)
      have e : (i + 1) * 2 = i * 2 + 2 := by omega
      rw [e]
      exact this
def RowT (w : World) (B : Nat) (v : Value) (ts : List (Int × Int)) : Prop := w.ownsRow B 93 2 v ts.length (flatT ts)
theorem RowT.nil (w : World) (B : Nat) : RowT w B (.slice none 0 0) [] := ⟨rfl, .inl ⟨rfl, rfl⟩⟩
theorem RowT.keep {S : List Nat} {w w' : World} {B : Nat} {v : Value} {ts : List (Int × Int)} (h : RowT w B v ts) (hk : Keep S w w') (hS : ∀ b, v.ownBlock = some b → b ∉ S) : RowT w' B v ts := owns_keep h hk hS
theorem RowT.get {w : World} {B : Nat} {v : Value} {ts : List (Int × Int)} (h : RowT w B v ts) {i : Nat} {t : Int × Int} (hi : ts[i]? = some t) :
    ∃ g cap, v = .slice (some ⟨g, 0, none⟩) ts.length cap ∧ B ≤ g ∧ g < w.heap.size ∧ ts.length ≤ cap ∧ cap ≤ maxLen ∧ w.cell? ⟨g, i * 2, none⟩ = some (.int .i64 t.1) ∧ w.cell? ⟨g, i * 2 + 1, none⟩ = some (.int .i64 t.2) := by
  obtain ⟨hl, h | ⟨g, cap, cur, rfl, hb, hg, hn, hm, hc, ht⟩⟩ := h
  · have := (List.getElem?_eq_some_iff.1 hi).1; omega
  · obtain ⟨c1, c2⟩ := flatT_get hi
    have hlt := (List.getElem?_eq_some_iff.1 hi).1
    rw [← ht] at c1 c2
    rw [List.getElem?_take, if_pos (by omega)] at c1 c2
    exact ⟨g, cap, rfl, hb, ob_lt (w := w) hg, hn, hm, by rw [cell_of_ob (w := w) hg]; simpa using c1, by rw [cell_of_ob (w := w) hg]; simpa using c2⟩
theorem info93 : (Try.prog.info? 93).map (fun i => (i.zero, i.size, i.bytes)) = some (some (.agg #[.int .i64 0, .int .i64 0]), 2, 16) := by kernel_rfl
theorem RowT.push {w : World} {B : Nat} {v : Value} {ts : List (Int × Int)} (h : RowT w B v ts) (t : Int × Int) {b : Nat} (hb : ob w b = some (.cells #[.int .i64 t.1, .int .i64 t.2] 93 (0, 0))) (hn : ts.length ≤ 1000) (hB : B ≤ w.heap.size) :
    ∃ va vc w', (Builtin.append_ #[91, 91] 91 #[v, .slice (some ⟨b, 0, none⟩) 1 1]).run Try.prog w = .ok (.slice va (ts.length + 1) vc) w' ∧ RowT w' B (.slice va (ts.length + 1) vc) (ts ++ [t]) ∧ Keep v.ownBlock.toList w w' ∧ ((Value.slice va (ts.length + 1) vc).ownBlock = v.ownBlock ∨ (Value.slice va (ts.length + 1) vc).ownBlock = some w.heap.size) := by
  obtain ⟨i, hi, hz⟩ := Option.map_eq_some_iff.1 info93
  simp only [Prod.mk.injEq] at hz
  obtain ⟨h1, h2, h3⟩ := hz
  obtain ⟨v', w', r1, r2, r3, _, r5⟩ := run_append_own_at (w := w) B 91 91 93 i (.agg #[.int .i64 0, .int .i64 0]) 2 16 Try.underlying91 hi h1 h2 h3 rfl (by omega) v ts.length (flatT ts) h ⟨b, 0, none⟩ 1 1 [.int .i64 t.1, .int .i64 t.2] rfl
    (fun j u hj => by
      rw [add_mk, cell_of_ob hb, Nat.zero_add]
      simpa using hj)
    (by intro u hu; simp at hu; rcases hu with rfl | rfl <;> rfl) (by unfold maxLen; omega) (by omega) hB
  obtain ⟨va, vc, rfl⟩ := owns_slice r2
  exact ⟨va, vc, w', r1, by unfold RowT; rw [List.length_append]; simpa [flatT] using r2, Keep.ofGrown r3, r5⟩
end Go.Proofs.Ytfljhfggjbkomaa
