/- The law BitmapRises, its tied card: whatever the input, the call returns true, and each argument reads afterwards as it read before. Condition: the table of math/bits holds what its own initialiser lays (the card ties that to the text). -/
import Derived.Test.YtfihnnijcaapkaaDoorVp
import Derived.Test.YtfihnnijcaapkaaDoorLibO
import Derived.Test.YtfihnnijcaapkaaDoorRows
import Derived.Test.YtfihnnijcaapkaaDoorCards
import Derived.Test.YtfihnnijcaapkaaDoorTie
import Derived.Test.YtfihnnijcaapkaaDoorVy
import Derived.SevenTiedAt
namespace Go.Proofs.YtfihnnijcaapkaaDoor.lawBitmapRises
open Go.ChangeShapes Go.WideShapes Go.ChangeAt Go.RowKit
set_option linter.unusedVariables false

theorem own : ownKnob Tryd.prog.godebug = none := by kernel_rfl
theorem laidOut : laidOutB Tryd.prog = true := by kernel_rfl
noncomputable def laidWorld (os : Os) : World :=
  let w0 := World.holding Tryd.prog os ⟨#[], #[], []⟩
  { w0 with heap := w0.heap.modify 0 fun
      | .cells _ t frozen => .cells (tabL.map (fun n => Value.int .u8 n)).toArray t frozen
      | o => o }
theorem laidWorld_met (os : Os) (args : Array Value) : laidMetH Tryd.prog Rows.bitmapRisesRow.laid ((laidWorld os).forCall (fun _ _ => 0) ⟨#[], args, []⟩).memory :=
  laidMet_of_run' 8 (by kernel_rfl) (by kernel_rfl)

set_option maxRecDepth 100000 in
set_option maxHeartbeats 1000000 in
theorem lifted (os : Os) (started : os.Started) (H : Type) (enc : TypeId × Value → H) :
    ReturnsInHanded {} Tryd.checked os 6 .any (fun w args => (Rows.bitmapRisesSpec.pre enc Tryd.prog Tryd.f6 [] false w args ∧ laidMetH Tryd.prog Rows.bitmapRisesRow.laid w) ∧ sizedMet enc Tryd.prog Tryd.f6 (OpenSpec.ofChange Rows.bitmapRisesSpec) false w args) (Rows.bitmapRisesSpec.post enc Tryd.prog Tryd.f6 false true false false) := by
  refine returnsInHanded_of_change_and (C := Tryd.checked) (X := fun w _ => laidMetH Tryd.prog Rows.bitmapRisesRow.laid w) (fun _ _ _ hh h => h.of_heap hh) own started (by kernel_rfl) Tryd.func6
    (ChangeSpec.witness_at (enc := enc) (C := Tryd.checked) (os := os) (X := fun w _ => laidMetH Tryd.prog Rows.bitmapRisesRow.laid w) false (laidWorld os) #[.slice none 0 0, .int .i64 0] 8 rfl (by kernel_rfl) (by kernel_rfl) (by kernel_rfl) (by kernel_rfl) (by kernel_rfl) (laidWorld_met os _)) ?_
  intro W base args ds gs before hval0 hW _ hsz0 hL _
  have hval : ∀ (j : Nat) t v, Tryd.f6.params[j]? = some t → args[j]? = some v → Value.okWide Tryd.prog W .any base t v := hval0
  have hsz : (DataW.weightsEach Tryd.prog (Tryd.f6.params.toList ++ Rows.bitmapRisesSpec.plain.varTypes Tryd.prog) (ds ++ gs)).all (· ≤ reachBytes) = true := hsz0
  have hW' := hW
  obtain ⟨p, q, hA0, hV, rfl, _, _⟩ := hW
  have hA : DataW.TrodAll enc Tryd.prog W 0 (fun _ => true) true Tryd.f6.params.toList args.toList ds p := hA0
  have hAk := hA
  clear hA0 hval0 hsz0
  obtain ⟨rfl, rfl⟩ := trodVars_none hV
  simp only [List.append_nil] at hW'
  have hlt : ∀ x ∈ p, x.block < W.heap.size := fun x hx => by simpa using hW'.lt x hx
  have fin : ∀ W', Below W.heap.size W W' → Rows.bitmapRisesSpec.post enc Tryd.prog Tryd.f6 false true false false W args (.bool true) W' := fun W' hb =>
    law_post laidOut hb rfl rfl Tryd.underlying4 (by kernel_rfl) (by
      obtain ⟨_, _⟩ : True ∧ True := ⟨trivial, trivial⟩
      have hlen := trodAll_len hAk
      match ds, hlen with
      | [_, _], _ => rfl) hW' hAk hlt
  rw [Tryd.params6] at hA hval hsz
  obtain ⟨v0, vs0, d0, ds0, p0, q0, hargs, rfl, rfl, h0, rst0⟩ := trodAll_cons hA
  obtain ⟨v1, vs1, d1, ds1, p1, q1, rfl, rfl, rfl, h1, rst1⟩ := trodAll_cons rst0
  obtain ⟨rfl, rfl, rfl⟩ := trodAll_nil rst1
  obtain rfl : args = #[v0, v1] := by cases args; simp_all
  suffices hcall : Calls Tryd.prog 6 #[v0, v1] W fun e W' => e = .returned (.bool true) ∧ Below W.heap.size W W' from
    hcall.mono fun e W' h => ⟨_, h.1, fin W' h.2⟩
  have okw0 := hval 0 22 v0 rfl rfl
  have okw1 := hval 1 3 v1 rfl rfl
  have hTab : TabAt W := tab_of_laid hL
  have hz0 : 0 < W.heap.size := ob_lt_of_cell (hTab 0 (by omega))
  clear fin hAk hW' hval hL
  obtain ⟨xs, hv, hx⟩ := open_rows (d := 4) (ks := [.int .i64, .bool]) Tryd.underlying22 (by kernel_rfl) (of_decide_eq_true (by kernel_rfl)) okw0 h0
  have hc : Tryd.prog.cellsOf 32 = 2 := by kernel_rfl
  rw [hc] at hv
  obtain ⟨m, rfl, rfl, rfl, wm⟩ := open_int Tryd.underlying3 okw1 h1
  exact (rises03 W hTab hz0 v0 xs hv hx m).mono fun e W' h => ⟨h.1, h.2.toBelow⟩

theorem over : Rows.bitmapRisesRow.holds Tryd.pinned (OpenSpec.ofChange Rows.bitmapRisesSpec) :=
  OpenClaim.holds_of_wide 6 Tryd.f6 rfl rfl rfl rfl rfl rfl rfl ⟨rfl, rfl, rfl, rfl, rfl⟩ rfl rfl rfl rfl rfl (by kernel_rfl) Tryd.func6 (by kernel_rfl)
    (of_decide_eq_true (by kernel_rfl)) (by unfold Func.isWrapper; first | (rw [if_pos (by decide +kernel)]; kernel_rfl) | (rw [if_neg (by decide +kernel)]; exact ⟨rfl, rfl⟩))
    (fun os started H enc _ => lifted os started H enc)

theorem proved : Rows.BitmapRisesCardSaid :=
  Claim7.holds_tied_plain_at .later [] [.data] true (true, "8351f21a7e1321e03cb59775c8f0f1cd0b669d9b236ca9a0ab41fab7c1633f6f") false
    over (fun _ h => by cases h) (by kernel_rfl) (fun _ h => by cases h) bitmapRises_row_tie rfl ⟨rfl, rfl⟩ (by kernel_rfl) rfl
    (fun f fn hf hfn => by
      obtain rfl : f = 6 := Option.some.inj ((show Tryd.prog.funcNamed Rows.bitmapRisesRow.func = some 6 by kernel_rfl).symm.trans hf) |>.symm
      obtain rfl : fn = Tryd.f6 := (Option.some.inj (Tryd.func6.symm.trans hfn)).symm
      refine ⟨by kernel_rfl, fun j t ht => ?_⟩
      rw [Tryd.params6] at ht
      match j, ht with
      | 0, ht => simp at ht; subst ht; exact (show Tryd.prog.wantsStandIn 22 = false by kernel_rfl)
      | 1, ht => simp at ht; subst ht; exact (show Tryd.prog.wantsStandIn 3 = false by kernel_rfl)
      | j + 2, ht => simp at ht)
    (by kernel_rfl)
#print axioms proved
end Go.Proofs.YtfihnnijcaapkaaDoor.lawBitmapRises
