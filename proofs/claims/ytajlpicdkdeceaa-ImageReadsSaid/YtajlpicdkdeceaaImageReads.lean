/- The law ImageReads: whatever the input, the call returns true, and each argument reads afterwards as it read before. No condition. -/
import Derived.Test.YtajlpicdkdeceaaIr
import Derived.Test.YtajlpicdkdeceaaLibO
import Derived.Test.YtajlpicdkdeceaaRows
namespace Go.Proofs.Ytajlpicdkdeceaa.lawImageReads
open Go.ChangeShapes Go.WideShapes Go.ChangeAt Go.RowKit
set_option linter.unusedVariables false

theorem own : ownKnob Try.prog.godebug = none := by kernel_rfl
theorem laidOut : laidOutB Try.prog = true := by kernel_rfl

set_option maxRecDepth 100000 in
set_option maxHeartbeats 1000000 in
theorem lifted (os : Os) (started : os.Started) (H : Type) (enc : TypeId × Value → H) :
    ReturnsInHanded {} Try.checked os 3 .any (Rows.imageReadsSpec.pre6 enc Try.prog Try.f3 Rows.imageReadsRow.domain false) (Rows.imageReadsSpec.post enc Try.prog Try.f3 false true false false) := by
  refine returnsInHanded_of_change_sized (C := Try.checked) own started (by kernel_rfl) Try.func3
    (ChangeSpec.witness6 (enc := enc) (C := Try.checked) false ⟨#[], #[.slice none 0 0, .slice none 0 0], []⟩ 8 (by kernel_rfl) (by kernel_rfl) (by kernel_rfl) (by kernel_rfl)) ?_
  intro W base args ds gs before hval0 hW _ hsz0 _
  have hval : ∀ (j : Nat) t v, Try.f3.params[j]? = some t → args[j]? = some v → Value.okWide Try.prog W .any base t v := hval0
  have hsz : (DataW.weightsEach Try.prog (Try.f3.params.toList ++ Rows.imageReadsSpec.plain.varTypes Try.prog) (ds ++ gs)).all (· ≤ reachBytes) = true := hsz0
  have hW' := hW
  obtain ⟨p, q, hA0, hV, rfl, _, _⟩ := hW
  have hA : DataW.TrodAll enc Try.prog W 0 (fun _ => true) true Try.f3.params.toList args.toList ds p := hA0
  have hAk := hA
  clear hA0 hval0 hsz0
  obtain ⟨rfl, rfl⟩ := trodVars_none hV
  simp only [List.append_nil] at hW'
  have hlt : ∀ x ∈ p, x.block < W.heap.size := fun x hx => by simpa using hW'.lt x hx
  have fin : ∀ W', Below W.heap.size W W' → Rows.imageReadsSpec.post enc Try.prog Try.f3 false true false false W args (.bool true) W' := fun W' hb =>
    law_post laidOut hb rfl rfl Try.underlying4 (by kernel_rfl) (by
      have hlen := trodAll_len hAk
      match ds, hlen with
      | [_, _], _ => rfl) hW' hAk hlt
  rw [Try.params3] at hA hval hsz
  obtain ⟨v0, vs0, d0, ds0, p0, q0, hargs, rfl, rfl, h0, rst0⟩ := trodAll_cons hA
  obtain ⟨v1, vs1, d1, ds1, p1, q1, rfl, rfl, rfl, h1, rst1⟩ := trodAll_cons rst0
  obtain ⟨rfl, rfl, rfl⟩ := trodAll_nil rst1
  obtain rfl : args = #[v0, v1] := by cases args; simp_all
  suffices hcall : Calls Try.prog 3 #[v0, v1] W fun e W' => e = .returned (.bool true) ∧ Below W.heap.size W W' from
    hcall.mono fun e W' h => ⟨_, h.1, fin W' h.2⟩
  have okw0 := hval 0 22 v0 rfl rfl
  have okw1 := hval 1 23 v1 rfl rfl
  clear fin hAk hW' hval
  obtain ⟨xs, hv, hx⟩ := open_rows (d := 4) (ks := [.int .i64, .bool, .ints .u64]) Try.underlying22 (by kernel_rfl) (of_decide_eq_true (by kernel_rfl)) okw0 h0
  have hc : Try.prog.cellsOf 42 = 3 := by kernel_rfl
  rw [hc] at hv
  obtain ⟨l, hl⟩ := prd_of hv hx
  obtain ⟨bs, hb⟩ := open_ints_arg Try.underlying23 Try.underlying5 (by kernel_rfl) okw1 h1
  exact (reads14 W v0 v1 l bs hl hb).mono fun e W' h => ⟨h.1, h.2.toBelow⟩

theorem over : Rows.imageReadsRow.holds Try.pinned (OpenSpec.ofChange Rows.imageReadsSpec) :=
  OpenClaim.holds_of_wide 3 Try.f3 rfl rfl rfl rfl rfl rfl rfl ⟨rfl, rfl, rfl, rfl, rfl⟩ rfl rfl rfl rfl rfl (by kernel_rfl) Try.func3 (by kernel_rfl)
    (of_decide_eq_true (by kernel_rfl)) (by unfold Func.isWrapper; first | (rw [if_pos (by decide +kernel)]; kernel_rfl) | (rw [if_neg (by decide +kernel)]; exact ⟨rfl, rfl⟩))
    (fun os started H enc _ => lifted os started H enc)

theorem proved : Rows.ImageReadsSaid := over
#print axioms proved
end Go.Proofs.Ytajlpicdkdeceaa.lawImageReads
