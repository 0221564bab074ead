import Derived.Test.YtehmjjfgefopdaaZc
import Derived.Test.YtehmjjfgefopdaaLibO
namespace Go.Proofs.Ytehmjjfgefopdaa
open Go.RowKit
set_option linter.unusedSimpArgs false
set_option linter.unusedVariables false
open Go.RowKit Go.ChangeShapes Go.WideShapes

section
variable {H : Type} {enc : TypeId × Value → H} {P : Program} {w : World} {base : Nat} {spare : Nat → Bool} {held : Bool}
/-- an argument by value whose cells are numbers, truth values or slices of numbers -/
theorem open_gagg {r : Reach} {b0 : Nat} {t : TypeId} {v : Value} {x : DataW H} {p : List MemPlace} {d : Nat} {ks : List GK} (hk : gK P d t = some ks)
    (hs : (match P.underlying t with | some (.struct _) | some (.array _ _) => true | _ => false) = true)
    (hv : Value.okWide P w r b0 t v) (h : DataW.Trod enc P w base spare held t v x p) : ∃ cs : List Value, v = .agg cs.toArray ∧ GCells w ks cs := by
  obtain ⟨fuel, hf⟩ := h
  have c := g_cells d t ks hk fuel _ _ hf
  unfold Value.okWide at hv
  cases hu : P.underlying t with
  | none => simp [hu] at hs
  | some kd =>
    rw [hu] at hv hs
    cases kd <;> simp at hs
    all_goals
      obtain ⟨cs, rfl, _, _⟩ := hv
      exact ⟨cs.toList, by simp, by simpa [Value.cells] using c⟩
end
end Go.Proofs.Ytehmjjfgefopdaa
