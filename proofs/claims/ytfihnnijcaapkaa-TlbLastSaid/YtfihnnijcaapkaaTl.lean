import Derived.Test.YtfihnnijcaapkaaTi
namespace Go.Proofs.Ytfihnnijcaapkaa
open Go.RowKit
set_option linter.unusedSimpArgs false
set_option linter.unusedVariables false

/-! ### TlbLast: plain law, and the argument's cells -/
def dec9 (c : List Value) : Int × Ln := match c with
  | [_, .int _ at', .int _ a, .int _ p, .int _ f, .bool w] => (at', ⟨a, p, f, w⟩)
  | _ => (0, ln0)
def en9 (xs : List (List Value)) (j : Nat) : Int × Ln := dec9 (xs.getD j [])
def okF (e : Int × Ln) (a p : Int) : Bool := e.2.a == a && e.2.p == p && decide (0 ≤ e.1) && decide (e.1 < 8) && decide (0 ≤ e.2.f) && decide (e.2.f < 256)
def lastR (E : Nat → Int × Ln) (a p : Int) : Nat → Ln
  | 0 => ln0
  | n + 1 => if okF (E n) a p then (E n).2 else lastR E a p n
theorem lastR_zero (E : Nat → Int × Ln) (a p : Int) : lastR E a p 0 = ln0 := rfl
theorem lastR_yes {E : Nat → Int × Ln} {a p : Int} {n : Nat} (h : okF (E n) a p = true) : lastR E a p (n + 1) = (E n).2 := by
  show (if okF (E n) a p then (E n).2 else lastR E a p n) = _
  rw [if_pos h]
theorem lastR_no {E : Nat → Int × Ln} {a p : Int} {n : Nat} (h : okF (E n) a p = false) : lastR E a p (n + 1) = lastR E a p n := by
  show (if okF (E n) a p then (E n).2 else lastR E a p n) = _
  rw [if_neg (by simp [h])]
def InvL (E : Nat → Int × Ln) (n : Nat) (S : Nat → Option Ln) : Prop := ∀ i, i < 8 → ∀ l, S i = some l → rightB l = true ∧ lastR E l.a l.p n = l
theorem InvL.zero (E : Nat → Int × Ln) : InvL E 0 (fun _ => none) := by intro i _ l h; cases h
theorem okPut_parts {l : Ln} {at' : Int} : okPut l at' = true ↔ (1 ≤ l.a ∧ l.a ≤ 8 ∧ 0 ≤ l.p ∧ l.p ≤ 4095 ∧ 0 ≤ l.f ∧ l.f ≤ 255) ∧ 0 ≤ at' ∧ at' ≤ 7 := by
  unfold okPut rightB
  simp
theorem okF_parts {e : Int × Ln} {a p : Int} : okF e a p = true ↔ e.2.a = a ∧ e.2.p = p ∧ 0 ≤ e.1 ∧ e.1 < 8 ∧ 0 ≤ e.2.f ∧ e.2.f < 256 := by
  unfold okF
  simp [and_assoc]
theorem InvL.step {E : Nat → Int × Ln} {n : Nat} {S : Nat → Option Ln} (h : InvL E n S) (hU : Uniq S) : InvL E (n + 1) (putS S (E n).2 (E n).1) := by
  have U' := hU.put (E n).2 (E n).1
  by_cases hok : okPut (E n).2 (E n).1 = true
  · have hpl := placeR_lt (S := S) hok
    have hp := okPut_parts.1 hok
    have e1 : putS S (E n).2 (E n).1 = upS S (placeR S (E n).2 (E n).1) (some (E n).2) := by unfold putS; rw [if_pos hok]
    rw [e1] at U' ⊢
    intro i hi l hl
    by_cases e : i = placeR S (E n).2 (E n).1
    · have hl' : some (E n).2 = some l := by unfold upS at hl; rw [if_pos e] at hl; exact hl
      obtain rfl : (E n).2 = l := by simpa using hl'
      refine ⟨by unfold okPut at hok; simp only [Bool.and_eq_true] at hok; exact hok.1, lastR_yes (okF_parts.2 ⟨rfl, rfl, by omega, by omega, by omega, by omega⟩)⟩
    · have hl2 : S i = some l := by unfold upS at hl; rw [if_neg e] at hl; exact hl
      obtain ⟨h1, h2⟩ := h i hi l hl2
      refine ⟨h1, ?_⟩
      rw [lastR_no]
      · exact h2
      · cases hf : okF (E n) l.a l.p with
        | false => rfl
        | true =>
          have hf' := okF_parts.1 hf
          exact absurd (U' i _ hi hpl l (E n).2 hl (by unfold upS; rw [if_pos rfl]) hf'.1.symm hf'.2.1.symm) e
  · have e1 : putS S (E n).2 (E n).1 = S := by unfold putS; rw [if_neg hok]
    rw [e1]
    intro i hi l hl
    obtain ⟨h1, h2⟩ := h i hi l hl
    refine ⟨h1, ?_⟩
    rw [lastR_no]
    · exact h2
    · cases hf : okF (E n) l.a l.p with
      | false => rfl
      | true =>
        have hf' := okF_parts.1 hf
        exfalso
        apply hok
        rw [okPut_parts]
        have h3 : 1 ≤ l.a ∧ l.a ≤ 8 ∧ 0 ≤ l.p ∧ l.p ≤ 4095 ∧ 0 ≤ l.f ∧ l.f ≤ 255 := by
          unfold rightB at h1; simpa using h1
        omega
theorem find_put {S : Nat → Option Ln} (hU : Uniq S) {l : Ln} {at' : Int} (h : okPut l at' = true) : findR (putS S l at') l.a l.p = some l := by
  have hp := placeR_lt (S := S) h
  have e1 : putS S l at' = upS S (placeR S l at') (some l) := by unfold putS; rw [if_pos h]
  exact find_at (hU.put l at') hp (by rw [e1]; unfold upS; rw [if_pos rfl])
theorem InvL.line {E : Nat → Int × Ln} {n : Nat} {S : Nat → Option Ln} (h : InvL E n S) {l : Ln} (hl : l ∈ linesR S 8) : lastR E l.a l.p n = l := by
  obtain ⟨i, h1, h2⟩ := mem_linesR.1 hl
  exact (h i h1 l h2).2

def Arg9 (bb off : Nat) (E : Nat → Int × Ln) (j : Nat) (w : World) : Prop :=
  w.cell? ⟨bb, off + j * 6 + 1, none⟩ = some (.int .i64 (E j).1) ∧ w.cell? ⟨bb, off + j * 6 + 2, none⟩ = some (.int .i64 (E j).2.a) ∧ w.cell? ⟨bb, off + j * 6 + 3, none⟩ = some (.int .i64 (E j).2.p) ∧
    w.cell? ⟨bb, off + j * 6 + 4, none⟩ = some (.int .i64 (E j).2.f) ∧ w.cell? ⟨bb, off + j * 6 + 5, none⟩ = some (.bool (E j).2.w)
theorem args9 {W0 : World} {v0 : Value} {xs : List (List Value)} (hv : RdA W0 6 v0 xs) (hx : ∀ c ∈ xs, GCells W0 [.int .i64, .int .i64, .int .i64, .int .i64, .int .i64, .bool] c) (h0 : 0 < xs.length) :
    ∃ bb off cap, v0 = .slice (some ⟨bb, off, none⟩) xs.length cap ∧ bb < W0.heap.size ∧ ∀ w, Keep [] W0 w → ∀ j, j < xs.length → Arg9 bb off (en9 xs) j w := by
  obtain ⟨bb, off, cap, e, hb, _⟩ := hv.2 h0
  refine ⟨bb, off, cap, e, hb, fun w hk j hj => ?_⟩
  obtain ⟨bb', off', cap', e', hb', hc⟩ := (hv.keep hk (by simp)).2 h0
  rw [e] at e'
  simp only [Value.slice.injEq, Option.some.injEq, Addr.mk.injEq, and_true, true_and] at e'
  obtain ⟨⟨rfl, rfl⟩, rfl⟩ := e'
  have hxk : xs[j]? = some (xs[j]'hj) := List.getElem?_eq_getElem _
  obtain ⟨_, hr⟩ := hc j _ hxk
  have hen : en9 xs j = dec9 (xs[j]'hj) := by unfold en9; rw [List.getD_eq_getElem?_getD, hxk]; rfl
  obtain ⟨_, _, hxe, ⟨d, rfl, _⟩, _, _, rfl, ⟨at', rfl, _⟩, _, _, rfl, ⟨a, rfl, _⟩, _, _, rfl, ⟨p, rfl, _⟩, _, _, rfl, ⟨f, rfl, _⟩, _, _, rfl, ⟨lw, rfl⟩, rfl⟩ := hx _ (List.getElem_mem hj)
  unfold Arg9
  rw [hen]
  rw [hxe] at hr ⊢
  exact ⟨hr 1 _ rfl, hr 2 _ rfl, hr 3 _ rfl, hr 4 _ rfl, hr 5 _ rfl⟩
end Go.Proofs.Ytfihnnijcaapkaa
