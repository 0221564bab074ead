import Derived.Test.YtajlpicdkdeceaaId
import Derived.Defers
import Derived.Recover
import Derived.Laws.Pointers
namespace Go.Proofs.Ytajlpicdkdeceaa
open Go.RowKit
set_option linter.unusedSimpArgs false
set_option linter.unusedVariables false
attribute [local go_sem] ob_alloc ob_drew ob_drewN ob_setCell ob_setBlock objSet_cells obMap_map obClock_map isMapI_map keyI_mk findI_nil findI_cons lookRes_some lookRes_none lookRes_some' lookRes_none' setBlock_alloc mapPut

set_option maxRecDepth 100000 in
set_option maxHeartbeats 4000000 in
theorem catch_panicking (lc ec : Nat) (older : List PanicEntry) (w : World) (x y : Value) (h1 : w.cell? ⟨lc, 0, none⟩ = some x) (f1 : w.frozen? ⟨lc, 0, none⟩ = false) (h2 : w.cell? ⟨ec, 0, none⟩ = some y) (f2 : w.frozen? ⟨ec, 0, none⟩ = false) (hne : lc ≠ ec) :
    CallsD Try.prog 18 #[.pointer (some ⟨lc, 0, none⟩), .pointer (some ⟨ec, 0, none⟩)] (.panicking (formP :: older)) w fun e u' w' =>
      e = .returned (.tuple #[]) ∧ u' = .panicking ({ formP with recovered := true } :: older) ∧ w' = (w.setCell ⟨lc, 0, none⟩ (.slice none 0 0)).setCell ⟨ec, 0, none⟩ (.int .i64 11) := by
  refine callsD_of_wpS Try.func18 rfl fun c₀ cs hu => ?_
  apply wpS_seq
  apply wpS_region
  simp [wpOpsS, go_sem, recoverD, hu, formP, Try.ntmps18, Exit.thenS]
  apply wpS_seq
  apply wpS_region
  simp [wpOpsS, go_sem, Exit.thenS]
  refine wpS_cond (t := true) (by simp [Act.eval]) ?_
  simp only [if_true]
  apply wpS_region
  have g2 : (w.setCell ⟨lc, 0, none⟩ (.slice none 0 0)).cell? ⟨ec, 0, none⟩ = some y := by rw [cell_ob, ob_setCell, if_neg (fun e => hne e.symm), ← cell_ob]; exact h2
  simp [wpOpsS, go_sem, h1, f1, h2, f2, g2, bodyPostS, results, Try.results18]
set_option maxRecDepth 100000 in
set_option maxHeartbeats 4000000 in
theorem catch_idle (lc ec : Nat) (w : World) :
    CallsD Try.prog 18 #[.pointer (some ⟨lc, 0, none⟩), .pointer (some ⟨ec, 0, none⟩)] .returning w fun e u' w' => e = .returned (.tuple #[]) ∧ u' = .returning ∧ w' = w := by
  refine callsD_of_wpS Try.func18 rfl fun c₀ cs hu => ?_
  apply wpS_seq
  apply wpS_region
  simp [wpOpsS, go_sem, recoverD, hu, Try.ntmps18, Exit.thenS]
  apply wpS_seq
  apply wpS_region
  simp [wpOpsS, go_sem, Exit.thenS]
  refine wpS_cond (t := false) (by simp [Act.eval]) ?_
  simp only [Bool.false_eq_true, if_false]
  refine wpS_of_wp (wp_skip ?_)
  cases c₀
  simp_all [bodyPostS, results, Try.results18]
end Go.Proofs.Ytajlpicdkdeceaa
