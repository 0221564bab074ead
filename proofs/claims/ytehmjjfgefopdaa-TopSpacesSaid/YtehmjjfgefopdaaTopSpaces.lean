/- The law TopSpaces: whatever the input, the call returns true, and each argument reads afterwards as it read before. No condition. -/
import Derived.Test.YtehmjjfgefopdaaZd
import Derived.Test.YtehmjjfgefopdaaRows
namespace Go.Proofs.Ytehmjjfgefopdaa.lawTopSpaces
open Go.ChangeShapes Go.WideShapes Go.ChangeAt Go.RowKit
set_option linter.unusedVariables false

theorem own : ownKnob Try.prog.godebug = none := by kernel_rfl
theorem laidOut : laidOutB Try.prog = true := by kernel_rfl

set_option maxRecDepth 100000 in
set_option maxHeartbeats 1000000 in
theorem lifted (os : Os) (started : os.Started) (H : Type) (enc : TypeId × Value → H) :
    ReturnsInHanded {} Try.checked os 3 .any (Rows.topSpacesSpec.pre6 enc Try.prog Try.f3 Rows.topSpacesRow.domain false) (Rows.topSpacesSpec.post enc Try.prog Try.f3 false true false false) := by
  refine returnsInHanded_of_change_sized (C := Try.checked) own started (by kernel_rfl) Try.func3
    (ChangeSpec.witness6 (enc := enc) (C := Try.checked) false ⟨#[], #[.agg #[.slice none 0 0, .slice none 0 0], .slice none 0 0], []⟩ 8 (by kernel_rfl) (by kernel_rfl) (by kernel_rfl) (by kernel_rfl)) ?_
  intro W base args ds gs before hval0 hW _ hsz0 _
  have hval : ∀ (j : Nat) t v, Try.f3.params[j]? = some t → args[j]? = some v → Value.okWide Try.prog W .any base t v := hval0
  have hsz : (DataW.weightsEach Try.prog (Try.f3.params.toList ++ Rows.topSpacesSpec.plain.varTypes Try.prog) (ds ++ gs)).all (· ≤ reachBytes) = true := hsz0
  have hW' := hW
  obtain ⟨p, q, hA0, hV, rfl, _, _⟩ := hW
  have hA : DataW.TrodAll enc Try.prog W 0 (fun _ => true) true Try.f3.params.toList args.toList ds p := hA0
  have hAk := hA
  clear hA0 hval0 hsz0
  obtain ⟨rfl, rfl⟩ := trodVars_none hV
  simp only [List.append_nil] at hW'
  have hlt : ∀ x ∈ p, x.block < W.heap.size := fun x hx => by simpa using hW'.lt x hx
  have fin : ∀ W', Below W.heap.size W W' → Rows.topSpacesSpec.post enc Try.prog Try.f3 false true false false W args (.bool true) W' := fun W' hb =>
    law_post laidOut hb rfl rfl Try.underlying4 (by kernel_rfl) (by
      have hlen := trodAll_len hAk
      match ds, hlen with
      | [_, _], _ => rfl) hW' hAk hlt
  rw [Try.params3] at hA hval hsz
  obtain ⟨v0, vs0, d0, ds0, p0, q0, hargs, rfl, rfl, h0, rst0⟩ := trodAll_cons hA
  obtain ⟨v1, vs1, d1, ds1, p1, q1, rfl, rfl, rfl, h1, rst1⟩ := trodAll_cons rst0
  obtain ⟨rfl, rfl, rfl⟩ := trodAll_nil rst1
  obtain rfl : args = #[v0, v1] := by cases args; simp_all
  suffices hcall : Calls Try.prog 3 #[v0, v1] W fun e W' => e = .returned (.bool true) ∧ Below W.heap.size W W' from
    hcall.mono fun e W' h => ⟨_, h.1, fin W' h.2⟩
  have okw0 := hval 0 23 v0 rfl rfl
  have okw1 := hval 1 22 v1 rfl rfl
  clear fin hAk hW' hval
  obtain ⟨cs, rfl, c⟩ := open_gagg (d := 4) (ks := [.ints .i64, .ints .i64]) (by kernel_rfl) (by kernel_rfl) okw0 h0
  obtain ⟨s0, r0, rfl, ⟨p0, g0⟩, s1, r1, rfl, ⟨p1, g1⟩, rfl⟩ := c
  obtain ⟨pt, ht⟩ := open_ints_arg (k := .i64) Try.underlying22 Try.underlying3 (by kernel_rfl) okw1 h1
  exact (top03 W s0 s1 v1 p0 p1 pt g0.1 g1.1 ht.1).mono fun e W' h => ⟨h.1, h.2.toBelow⟩

theorem over : Rows.topSpacesRow.holds Try.pinned (OpenSpec.ofChange Rows.topSpacesSpec) :=
  OpenClaim.holds_of_wide 3 Try.f3 rfl rfl rfl rfl rfl rfl rfl ⟨rfl, rfl, rfl, rfl, rfl⟩ rfl rfl rfl rfl rfl (by kernel_rfl) Try.func3 (by kernel_rfl)
    (of_decide_eq_true (by kernel_rfl)) (by unfold Func.isWrapper; first | (rw [if_pos (by decide +kernel)]; kernel_rfl) | (rw [if_neg (by decide +kernel)]; exact ⟨rfl, rfl⟩))
    (fun os started H enc _ => lifted os started H enc)

theorem proved : Rows.TopSpacesSaid := over
#print axioms proved
end Go.Proofs.Ytehmjjfgefopdaa.lawTopSpaces
