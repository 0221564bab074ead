import Derived.Test.YtajlpicdkdeceaaDoorHc
namespace Go.Proofs.YtajlpicdkdeceaaDoor
open Go.RowKit
set_option linter.unusedSimpArgs false
set_option linter.unusedVariables false
attribute [local go_sem] ob_alloc ob_drew ob_drewN ob_setCell ob_setBlock objSet_cells obMap_map obClock_map isMapI_map keyI_mk findI_nil findI_cons lookRes_some lookRes_none lookRes_some' lookRes_none' setBlock_alloc mapPut
open Go.Lib

set_option maxRecDepth 100000 in
set_option maxHeartbeats 1000000 in
theorem eql23 (a0 a1 a2 a3 a4 b0 b1 b2 b3 b4 : Int) (w : World) :
    (binOp .eql 23 (.agg #[.int .i64 a0, .int .i64 a1, .int .i64 a2, .int .i64 a3, .int .i64 a4]) (.agg #[.int .i64 b0, .int .i64 b1, .int .i64 b2, .int .i64 b3, .int .i64 b4])).run Tryd.prog w = .ok (.bool (decide (a0 = b0 ∧ a1 = b1 ∧ a2 = b2 ∧ a3 = b3 ∧ a4 = b4))) w := by
  go_simp
  simp [ite_okb]
set_option maxRecDepth 100000 in
set_option maxHeartbeats 1000000 in
theorem neq23 (a0 a1 a2 a3 a4 b0 b1 b2 b3 b4 : Int) (w : World) :
    (binOp .neq 23 (.agg #[.int .i64 a0, .int .i64 a1, .int .i64 a2, .int .i64 a3, .int .i64 a4]) (.agg #[.int .i64 b0, .int .i64 b1, .int .i64 b2, .int .i64 b3, .int .i64 b4])).run Tryd.prog w = .ok (.bool (!decide (a0 = b0 ∧ a1 = b1 ∧ a2 = b2 ∧ a3 = b3 ∧ a4 = b4))) w := by
  go_simp
  simp [ite_okn]
/-! ### awake: a sum -/
def iA : IN := ⟨2, 1, 2, 3, 0⟩
def sA : ByteArray := ⟨#[97, 100, 100, 32, 114, 49, 32, 114, 50, 32, 114, 51]⟩
theorem right_A : right iA = true := by decide
theorem word_A : word iA = 53506 := by decide
theorem text_A : text iA = sA.data.toList := by
  have h : (List.range 5).filter (named 2) = [1, 2, 3] := by decide
  have h2 : parts iA = [[97, 100, 100], [114, 49], [114, 50], [114, 51]] := by
    unfold parts argsTo
    rw [show iA.op.toNat = 2 from rfl, h]
    have d1 : decDigits (iA.f 1).toNat = [49] := by rw [show (iA.f 1).toNat = 1 from rfl, decDigits_one (by omega)]; rfl
    have d2 : decDigits (iA.f 2).toNat = [50] := by rw [show (iA.f 2).toNat = 2 from rfl, decDigits_one (by omega)]; rfl
    have d3 : decDigits (iA.f 3).toNat = [51] := by rw [show (iA.f 3).toNat = 3 from rfl, decDigits_one (by omega)]; rfl
    simp only [List.map_cons, List.map_nil, arg, d1, d2, d3]
    rfl
  unfold text
  rw [h2]
  decide
theorem wf_A : iA.wf := fun q => by
  match q with
  | 0 | 1 | 2 | 3 => decide
  | _ + 4 => exact (by decide : -9223372036854775808 ≤ (0 : Int) ∧ (0 : Int) ≤ 9223372036854775807)
set_option maxRecDepth 100000 in
set_option maxHeartbeats 2000000 in
theorem pAwake (w : World) (hE : Env w) : Calls Tryd.prog 7 #[] w fun e w' => e = .returned (.bool true) ∧ Keep [] w w' := by
  have hA : Keep [] w (w.alloc (.cells #[.int .i64 2, .int .i64 1, .int .i64 2, .int .i64 3, .int .i64 0] 23)) := (Keep.refl _ _).alloc _
  have HA := Lib.hid (And.intro hA (And.intro (al_new w (.cells #[.int .i64 2, .int .i64 1, .int .i64 2, .int .i64 3, .int .i64 0] 23) rfl) hE))
  have hV : inV iA = .agg #[.int .i64 2, .int .i64 1, .int .i64 2, .int .i64 3, .int .i64 0] := rfl
  have HIV := Lib.hid hV
  clear hA hE hV
  go_enter Tryd.func7, Tryd.ntmps7
  go_wp2_with fail
  obtain ⟨hA, hob, hE⟩ := HA.out
  clear HA
  generalize w.alloc (.cells #[.int .i64 2, .int .i64 1, .int .i64 2, .int .i64 3, .int .i64 0] 23) = w1 at *
  generalize w.heap.size = ci at *
  rw [← HIV.out]
  refine (pWord w1 iA wf_A).mono ?_
  rintro _ w2 ⟨hk2, rfl⟩
  rw [right_A, word_A, HIV.out]
  simp only [if_true]
  have HK2 := Lib.hid (And.intro (hA.trans hk2) (And.intro (hk2.kp hob (by simp)) hE))
  have r0 := cell_of_ob HK2.out.2.1 0
  have r1 := cell_of_ob HK2.out.2.1 1
  have r2 := cell_of_ob HK2.out.2.1 2
  have r3 := cell_of_ob HK2.out.2.1 3
  have r4 := cell_of_ob HK2.out.2.1 4
  have lc := ob_lt HK2.out.2.1
  simp only [List.getElem?_toArray, List.getElem?_cons_zero, List.getElem?_cons_succ] at r0 r1 r2 r3 r4
  clear hA hk2 hob hE
  go_wp2_with fail
  rw [← HIV.out]
  refine (pText w2 iA wf_A (HK2.out.2.2.keep HK2.out.1)).mono ?_
  rintro _ w3 ⟨hk3, rfl⟩
  have ht : toB (text iA) = sA := by unfold toB; rw [text_A]
  rw [right_A, ht, HIV.out]
  simp only [if_true]
  have HK3 := Lib.hid (And.intro (HK2.out.1.trans hk3) (And.intro (hk3.kp HK2.out.2.1 (by simp)) HK2.out.2.2))
  clear hk3 HK2 ht r0 r1 r2 r3 r4 lc
  go_wp2_with fail
  have hRd := pRead w3 sA (by decide) (HK3.out.2.2.keep HK3.out.1)
  rw [decT_some right_A text_A] at hRd
  refine hRd.mono ?_
  rintro _ w4 ⟨hk4, rfl⟩
  simp only [Option.getD_some, Option.isSome_some, if_true]
  rw [HIV.out]
  have HK4 := Lib.hid (And.intro (HK3.out.1.trans hk4) (hk4.kp HK3.out.2.1 (by simp)))
  have ho5 := ((Keep.refl [] w4).alloc (.cells #[.int .i64 2, .int .i64 1, .int .i64 2, .int .i64 3, .int .i64 0] 23)).kp HK4.out.2 (by simp)
  have r0 := cell_of_ob HK4.out.2 0
  have r1 := cell_of_ob HK4.out.2 1
  have r2 := cell_of_ob HK4.out.2 2
  have r3 := cell_of_ob HK4.out.2 3
  have r4 := cell_of_ob HK4.out.2 4
  have lc := ob_lt HK4.out.2
  simp only [List.getElem?_toArray, List.getElem?_cons_zero, List.getElem?_cons_succ] at r0 r1 r2 r3 r4
  have heq := eql23 2 1 2 3 0 2 1 2 3 0
  clear hRd hk4 HK3 ho5
  unfold sA
  go_wp2_with fail
  go_ret
  exact ⟨ret_b (by decide), HK4.out.1.alloc _⟩
end Go.Proofs.YtajlpicdkdeceaaDoor
