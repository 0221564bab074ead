/- The law IsaTexts, its tied card: whatever the input, the call returns true, and each argument reads afterwards as it read before. Condition: the seven listed variables of the library hold what their own initialisers lay (the card ties that to the text). -/
import Derived.Test.YtajlpicdkdeceaaDoorHo
import Derived.Test.YtajlpicdkdeceaaDoorRows
import Derived.Test.YtajlpicdkdeceaaDoorCards
import Derived.Test.YtajlpicdkdeceaaDoorTie
import Derived.Test.YtajlpicdkdeceaaDoorJz
import Derived.SevenTiedAt
namespace Go.Proofs.YtajlpicdkdeceaaDoor.lawIsaTexts
open Go.ChangeShapes Go.WideShapes Go.ChangeAt Go.RowKit
open Go.ChangeMaps (open_string)
set_option linter.unusedVariables false

theorem own : ownKnob Tryd.prog.godebug = none := by kernel_rfl
theorem laidOut : laidOutB Tryd.prog = true := by kernel_rfl
theorem listed : Rows.isaTextsRow.laid = laidL := rfl

set_option maxRecDepth 100000 in
set_option maxHeartbeats 1000000 in
theorem lifted (os : Os) (started : os.Started) (H : Type) (enc : TypeId × Value → H) :
    ReturnsInHanded {} Tryd.checked os 3 .any (fun w args => (Rows.isaTextsSpec.pre enc Tryd.prog Tryd.f3 [] false w args ∧ laidMetH Tryd.prog Rows.isaTextsRow.laid w) ∧ sizedMet enc Tryd.prog Tryd.f3 (OpenSpec.ofChange Rows.isaTextsSpec) false w args) (Rows.isaTextsSpec.post enc Tryd.prog Tryd.f3 false true false false) := by
  rw [listed]
  refine handed_laid_shaped (C := Tryd.checked) (X := fun w _ => laidMetH Tryd.prog laidL w) (fun _ _ _ hh h => h.of_heap hh) own started (by kernel_rfl) Tryd.func3
    (ChangeSpec.witness_at (enc := enc) (C := Tryd.checked) (os := os) (X := fun w _ => laidMetH Tryd.prog laidL w) false (laidWorld os) #[.agg #[.int .i64 0, .int .i64 0, .int .i64 0, .int .i64 0, .int .i64 0], .string ⟨#[]⟩] 8 rfl (by kernel_rfl) (by kernel_rfl) (by kernel_rfl) (by kernel_rfl) (by kernel_rfl) (laidWorld_met os _)) ?_
  intro W base args ds gs before hval0 hW hsz0 hsh hL
  have hval : ∀ (j : Nat) t v, Tryd.f3.params[j]? = some t → args[j]? = some v → Value.okWide Tryd.prog W .any base t v := hval0
  have hsz : (DataW.weightsEach Tryd.prog (Tryd.f3.params.toList ++ Rows.isaTextsSpec.plain.varTypes Tryd.prog) (ds ++ gs)).all (· ≤ reachBytes) = true := hsz0
  have hW' := hW
  obtain ⟨p, q, hA0, hV, rfl, _, _⟩ := hW
  have hA : DataW.TrodAll enc Tryd.prog W 0 (fun _ => true) true Tryd.f3.params.toList args.toList ds p := hA0
  have hAk := hA
  clear hA0 hval0 hsz0
  obtain ⟨rfl, rfl⟩ := trodVars_none hV
  simp only [List.append_nil] at hW'
  have hlt : ∀ x ∈ p, x.block < W.heap.size := fun x hx => by simpa using hW'.lt x hx
  have fin : ∀ W', Below W.heap.size W W' → Rows.isaTextsSpec.post enc Tryd.prog Tryd.f3 false true false false W args (.bool true) W' := fun W' hb =>
    law_post laidOut hb rfl rfl Tryd.underlying4 (by kernel_rfl) (by
      have hlen := trodAll_len hAk
      match ds, hlen with
      | [_, _], _ => rfl) hW' hAk hlt
  rw [Tryd.params3] at hA hval hsz
  obtain ⟨v0, vs0, d0, ds0, p0, q0, hargs, rfl, rfl, h0, rst0⟩ := trodAll_cons hA
  obtain ⟨v1, vs1, d1, ds1, p1, q1, rfl, rfl, rfl, h1, rst1⟩ := trodAll_cons rst0
  obtain ⟨rfl, rfl, rfl⟩ := trodAll_nil rst1
  obtain rfl : args = #[v0, v1] := by cases args; simp_all
  suffices hcall : Calls Tryd.prog 3 #[v0, v1] W fun e W' => e = .returned (.bool true) ∧ Below W.heap.size W W' from
    hcall.mono fun e W' h => ⟨_, h.1, fin W' h.2⟩
  have okw0 := hval 0 23 v0 rfl rfl
  have okw1 := hval 1 9 v1 rfl rfl
  have hEnv : Env W := env_of_laid hL hsh
  clear fin hAk hW' hval hL hsh
  obtain ⟨i, rfl, wi⟩ := open_in okw0 h0
  obtain ⟨s, rfl, rfl, rfl, _⟩ := open_string Tryd.underlying9 okw1 h1
  exact (texts12 W i s wi hEnv).mono fun e W' h => ⟨h.1, h.2.toBelow⟩

theorem over : Rows.isaTextsRow.holds Tryd.pinned (OpenSpec.ofChange Rows.isaTextsSpec) :=
  OpenClaim.holds_of_wide 3 Tryd.f3 rfl rfl rfl rfl rfl rfl rfl ⟨rfl, rfl, rfl, rfl, rfl⟩ rfl rfl rfl rfl rfl (by kernel_rfl) Tryd.func3 (by kernel_rfl)
    (of_decide_eq_true (by kernel_rfl)) (by unfold Func.isWrapper; first | (rw [if_pos (by decide +kernel)]; kernel_rfl) | (rw [if_neg (by decide +kernel)]; exact ⟨rfl, rfl⟩))
    (fun os started H enc _ => lifted os started H enc)

theorem proved : Rows.IsaTextsCardSaid :=
  Claim7.holds_tied_plain_at .later [] [.data, .data, .data, .data, .sentinel, .sentinel, .pinned] true (true, "afa0086247b99805c2bda18482d9a36c875b15a988af53337be06e2db96e82ae") true
    over (fun _ h => by cases h) (by kernel_rfl) (fun _ h => by cases h) isaTexts_row_tie rfl ⟨rfl, rfl⟩ (by kernel_rfl) rfl
    (fun f fn hf hfn => by
      obtain rfl : f = 3 := Option.some.inj ((show Tryd.prog.funcNamed Rows.isaTextsRow.func = some 3 by kernel_rfl).symm.trans hf) |>.symm
      obtain rfl : fn = Tryd.f3 := (Option.some.inj (Tryd.func3.symm.trans hfn)).symm
      refine ⟨by kernel_rfl, fun j t ht => ?_⟩
      rw [Tryd.params3] at ht
      match j, ht with
      | 0, ht => simp at ht; subst ht; exact (show Tryd.prog.wantsStandIn 23 = false by kernel_rfl)
      | 1, ht => simp at ht; subst ht; exact (show Tryd.prog.wantsStandIn 9 = false by kernel_rfl)
      | j + 2, ht => simp at ht)
    (by kernel_rfl)
#print axioms proved
end Go.Proofs.YtajlpicdkdeceaaDoor.lawIsaTexts
