import Derived.Test.YtfihnnijcaapkaaDoorVc
import Derived.Test.YtfihnnijcaapkaaDoorLibO
import Derived.LaidLaws
import Derived.LaidSub
import Derived.ChangeVars
import Derived.Stop.Joined
namespace Go.Proofs.YtfihnnijcaapkaaDoor
open Go.RowKit
set_option linter.unusedSimpArgs false
set_option linter.unusedVariables false
open Go.ChangeShapes Go.WideShapes

theorem gTab : Tryd.prog.globalNamed "math/bits.deBruijn64tab" = some 0 := by kernel_rfl
theorem gTabType : (Tryd.prog.globals[0]?).map (·.type) = some 54 := by kernel_rfl
theorem cells5 : Tryd.prog.cellsOf 5 = 1 := by kernel_rfl
theorem laid_list : (Rows.laid_math_bits_deBruijn64tab : DataW Unit) = .agg (tabL.map fun n => .lit (.int .u8 n)) := rfl
/-- what the condition gives a walk -/
theorem tab_of_laid {W : World} (h : laidMetH Tryd.prog [("math/bits.deBruijn64tab", Rows.laid_math_bits_deBruijn64tab)] W) : TabAt W := by
  have h1 := (laidMetH_iff.1 h).1
  have e : ([("math/bits.deBruijn64tab", (Rows.laid_math_bits_deBruijn64tab : DataW Unit))].filter fun x => x.2.handleName?.isNone) = [("math/bits.deBruijn64tab", Rows.laid_math_bits_deBruijn64tab)] := rfl
  rw [e] at h1
  obtain ⟨ps, ⟨g, t, cs, fuel, p, q, hg, ht, hvar, hd, _, _⟩, _⟩ := h1
  obtain rfl := Option.some.inj (gTab.symm.trans hg)
  obtain rfl := Option.some.inj (gTabType.symm.trans ht)
  obtain ⟨xs, m, rfl, hx, hl, hxl, hi⟩ := DataW.trod_array Tryd.underlying54 hd
  intro i hi64
  rw [World.var?_cell gTab hvar i]
  have h0 := hi i hi64
  have hxi : xs[i]? = some (xs[i]'(by omega)) := List.getElem?_eq_getElem _
  rw [hxi, cells5, Nat.mul_one] at h0
  obtain ⟨n, h2, h3, _⟩ := DataW.trod_int Tryd.underlying5 h0
  rw [Prod.mk.injEq, laid_list] at hx
  have hx1 := hx.1
  simp only [DataW.agg.injEq] at hx1
  have h4 : (tabL.map fun n => (DataW.lit (.int .u8 n) : DataW Unit))[i]? = some (.lit (.int .u8 n)) := by
    rw [hx1, List.getElem?_map, hxi, h3]; rfl
  have h5 : tabL[i]? = some n := by
    rw [List.getElem?_map] at h4
    obtain ⟨n', h6, h7⟩ := Option.map_eq_some_iff.1 h4
    simp at h7
    rw [h6, h7]
  have h8 : (cs.toList.drop i)[0]? = some (Value.int .u8 n) := by
    have : ((cs.toList.drop i).take 1)[0]? = some (Value.int .u8 n) := by rw [h2]; rfl
    rw [List.getElem?_take] at this
    simpa using this
  rw [List.getElem?_drop, Nat.add_zero] at h8
  rw [List.getD_eq_getElem?_getD, h5]
  simpa using h8
theorem ob_lt_of_cell {w : World} {b i : Nat} {v : Value} (h : w.cell? ⟨b, i, none⟩ = some v) : b < w.heap.size := by
  rw [cell_ob] at h
  cases hb : ob w b with
  | none => rw [hb] at h; cases h
  | some o => exact ob_lt hb
end Go.Proofs.YtfihnnijcaapkaaDoor
