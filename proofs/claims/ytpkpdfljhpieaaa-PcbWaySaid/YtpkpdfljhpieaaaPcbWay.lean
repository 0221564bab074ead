/- The law PcbWay: whatever the input, the call returns true, and each argument reads afterwards as it read before. No condition. -/
import Derived.Test.YtpkpdfljhpieaaaPh
import Derived.Test.YtpkpdfljhpieaaaLibR
import Derived.Test.YtpkpdfljhpieaaaRows
namespace Go.Proofs.Ytpkpdfljhpieaaa.lawPcbWay
open Go.ChangeShapes Go.WideShapes Go.ChangeAt Go.RowKit
set_option linter.unusedVariables false

theorem own : ownKnob Try.prog.godebug = none := by kernel_rfl
theorem laidOut : laidOutB Try.prog = true := by kernel_rfl

set_option maxRecDepth 100000 in
set_option maxHeartbeats 1000000 in
theorem lifted (os : Os) (started : os.Started) (H : Type) (enc : TypeId × Value → H) :
    ReturnsInHanded {} Try.checked os 12 .any (Rows.pcbWaySpec.pre6 enc Try.prog Try.f12 Rows.pcbWayRow.domain false) (Rows.pcbWaySpec.post enc Try.prog Try.f12 false true false false) := by
  refine returnsInHanded_of_change_sized (C := Try.checked) own started (by kernel_rfl) Try.func12
    (ChangeSpec.witness6 (enc := enc) (C := Try.checked) false ⟨#[], #[.int .i64 0, .agg #[.int .u64 0, .int .u64 0, .int .u64 0, .int .u64 0, .int .u64 0, .int .u64 0, .int .u64 0, .int .u64 0, .int .u64 0], .bool false], []⟩ 8 (by kernel_rfl) (by kernel_rfl) (by kernel_rfl) (by kernel_rfl)) ?_
  intro W base args ds gs before hval0 hW _ hsz0 _
  have hval : ∀ (j : Nat) t v, Try.f12.params[j]? = some t → args[j]? = some v → Value.okWide Try.prog W .any base t v := hval0
  have hsz : (DataW.weightsEach Try.prog (Try.f12.params.toList ++ Rows.pcbWaySpec.plain.varTypes Try.prog) (ds ++ gs)).all (· ≤ reachBytes) = true := hsz0
  have hW' := hW
  obtain ⟨p, q, hA0, hV, rfl, _, _⟩ := hW
  have hA : DataW.TrodAll enc Try.prog W 0 (fun _ => true) true Try.f12.params.toList args.toList ds p := hA0
  have hAk := hA
  clear hA0 hval0 hsz0
  obtain ⟨rfl, rfl⟩ := trodVars_none hV
  simp only [List.append_nil] at hW'
  have hlt : ∀ x ∈ p, x.block < W.heap.size := fun x hx => by simpa using hW'.lt x hx
  have fin : ∀ W', Below W.heap.size W W' → Rows.pcbWaySpec.post enc Try.prog Try.f12 false true false false W args (.bool true) W' := fun W' hb =>
    law_post laidOut hb rfl rfl Try.underlying4 (by kernel_rfl) (by
      have hlen := trodAll_len hAk
      match ds, hlen with
      | [_, _, _], _ => rfl) hW' hAk hlt
  rw [Try.params12] at hA hval hsz
  obtain ⟨v0, vs0, d0, ds0, p0, q0, hargs, rfl, rfl, h0, rst0⟩ := trodAll_cons hA
  obtain ⟨v1, vs1, d1, ds1, p1, q1, rfl, rfl, rfl, h1, rst1⟩ := trodAll_cons rst0
  obtain ⟨v2, vs2, d2, ds2, p2, q2, rfl, rfl, rfl, h2, rst2⟩ := trodAll_cons rst1
  obtain ⟨rfl, rfl, rfl⟩ := trodAll_nil rst2
  obtain rfl : args = #[v0, v1, v2] := by cases args; simp_all
  suffices hcall : Calls Try.prog 12 #[v0, v1, v2] W fun e W' => e = .returned (.bool true) ∧ Below W.heap.size W W' from
    hcall.mono fun e W' h => ⟨_, h.1, fin W' h.2⟩
  have okw0 := hval 0 3 v0 rfl rfl
  have okw1 := hval 1 47 v1 rfl rfl
  have okw2 := hval 2 4 v2 rfl rfl
  clear fin hAk hW' hval
  obtain ⟨part, rfl, rfl, rfl, _⟩ := open_int Try.underlying3 okw0 h0
  obtain ⟨cs1, rfl, c1, _⟩ := open_flat (d := 4) (ks := [.int .u64, .int .u64, .int .u64, .int .u64, .int .u64, .int .u64, .int .u64, .int .u64, .int .u64]) (by kernel_rfl) (by kernel_rfl) okw1 h1
  obtain ⟨again, rfl, rfl, rfl⟩ := open_bool Try.underlying4 okw2 h2
  obtain ⟨_, _, rfl, ⟨r0, rfl, _⟩, _, _, rfl, ⟨r1, rfl, _⟩, _, _, rfl, ⟨r2, rfl, _⟩, _, _, rfl, ⟨r3, rfl, _⟩, _, _, rfl, ⟨r4, rfl, _⟩, _, _, rfl, ⟨r5, rfl, _⟩, _, _, rfl, ⟨r6, rfl, _⟩, _, _, rfl, ⟨r7, rfl, _⟩, _, _, rfl, ⟨pc, rfl, _⟩, rfl⟩ := c1
  exact (way20 W part (fun i => [r0, r1, r2, r3, r4, r5, r6, r7, pc].getD i 0) again).mono fun e W' h => ⟨h.1, h.2.toBelow⟩

theorem over : Rows.pcbWayRow.holds Try.pinned (OpenSpec.ofChange Rows.pcbWaySpec) :=
  OpenClaim.holds_of_wide 12 Try.f12 rfl rfl rfl rfl rfl rfl rfl ⟨rfl, rfl, rfl, rfl, rfl⟩ rfl rfl rfl rfl rfl (by kernel_rfl) Try.func12 (by kernel_rfl)
    (of_decide_eq_true (by kernel_rfl)) (by unfold Func.isWrapper; first | (rw [if_pos (by decide +kernel)]; kernel_rfl) | (rw [if_neg (by decide +kernel)]; exact ⟨rfl, rfl⟩))
    (fun os started H enc _ => lifted os started H enc)

theorem proved : Rows.PcbWaySaid := over
#print axioms proved
end Go.Proofs.Ytpkpdfljhpieaaa.lawPcbWay
