import Derived.Test.YtajlpicdkdeceaaDoorJy
import Derived.Test.YtajlpicdkdeceaaDoorLibR
import Derived.ChangeMaps5
namespace Go.Proofs.YtajlpicdkdeceaaDoor
open Go.RowKit
set_option linter.unusedSimpArgs false
set_option linter.unusedVariables false
open Go.ChangeShapes Go.WideShapes

section
variable {H : Type} {enc : TypeId × Value → H} {w : World} {base : Nat} {spare : Nat → Bool} {held : Bool}
theorem i64_of {n : Int} (h : (Lit.int .i64 n).wf = true) : -9223372036854775808 ≤ n ∧ n ≤ 9223372036854775807 := by
  simp [Lit.wf, IntKind.min, IntKind.max, IntKind.bits, IntKind.signed] at h
  omega
set_option maxRecDepth 100000 in
/-- an instruction, as an argument -/
theorem open_in {r : Reach} {b0 : Nat} {v : Value} {x : DataW H} {p : List MemPlace} (hv : Value.okWide Tryd.prog w r b0 23 v) (h : DataW.Trod enc Tryd.prog w base spare held 23 v x p) : ∃ i : IN, v = inV i ∧ i.wf := by
  obtain ⟨cs, rfl, c, _⟩ := open_flat (d := 4) (ks := [.int .i64, .int .i64, .int .i64, .int .i64, .int .i64]) (by kernel_rfl) (by kernel_rfl) hv h
  obtain ⟨_, _, rfl, ⟨a0, rfl, w0⟩, _, _, rfl, ⟨a1, rfl, w1⟩, _, _, rfl, ⟨a2, rfl, w2⟩, _, _, rfl, ⟨a3, rfl, w3⟩, _, _, rfl, ⟨a4, rfl, w4⟩, rfl⟩ := c
  refine ⟨⟨a0, a1, a2, a3, a4⟩, rfl, fun q => ?_⟩
  match q with
  | 0 => exact i64_of w0
  | 1 => exact i64_of w1
  | 2 => exact i64_of w2
  | 3 => exact i64_of w3
  | _ + 4 => exact i64_of w4
end
end Go.Proofs.YtajlpicdkdeceaaDoor
