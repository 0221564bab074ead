import Derived.Test.YtajlpicdkdeceaaDoorJa
import Derived.Test.YtajlpicdkdeceaaDoorLibO
import Derived.Test.YtajlpicdkdeceaaDoorLibT
import Derived.Test.YtajlpicdkdeceaaDoorLibW
import Derived.Test.YtajlpicdkdeceaaDoorRows
import Derived.Test.YtajlpicdkdeceaaDoorShelf
import Derived.Deep.LoopGhost
import Derived.BigRegion
import Derived.Deep.CutRange
import Derived.Deep.RegionHeld3
namespace Go.Proofs.YtajlpicdkdeceaaDoor
open Go.RowKit
set_option linter.unusedSimpArgs false
set_option linter.unusedVariables false
attribute [local go_sem] ob_alloc ob_drew ob_drewN ob_setCell ob_setBlock objSet_cells obMap_map obClock_map isMapI_map keyI_mk findI_nil findI_cons lookRes_some lookRes_none lookRes_some' lookRes_none' setBlock_alloc mapPut

def wdB (o : Nat) : ByteArray := ⟨(wd o).toArray⟩
def nmB (o : Nat) : ByteArray := ⟨(nm o).toArray⟩
def chB (k : Nat) : ByteArray := ⟨#[ch k]⟩
def formsF (j : Nat) : Value := if j % 2 = 0 then .string (wdB (j / 2)) else .string (nmB (j / 2))
def fieldsN (j : Nat) : Int := [0, 8, 8, 3, 11, 3, 14, 3, 24, 16].getD j 0
@[irreducible] def formsV : Value := .agg (blk formsF 24)
@[irreducible] def fieldsV : Value := .agg (blk (vI fieldsN) 10)
def inV (i : IN) : Value := .agg #[.int .i64 i.op, .int .i64 i.a, .int .i64 i.b, .int .i64 i.c, .int .i64 i.im]
@[irreducible] def splitV (i : IN) : Value := .agg (blk (vI i.f) 5)
theorem size41 : (Tryd.prog.info? 41).map (·.size) = some 24 := by kernel_rfl
theorem size40 : (Tryd.prog.info? 40).map (·.size) = some 2 := by kernel_rfl
theorem size66 : (Tryd.prog.info? 66).map (·.size) = some 10 := by kernel_rfl
theorem size65 : (Tryd.prog.info? 65).map (·.size) = some 2 := by kernel_rfl
theorem size44 : (Tryd.prog.info? 44).map (·.size) = some 5 := by kernel_rfl
theorem size23 : (Tryd.prog.info? 23).map (·.size) = some 5 := by kernel_rfl
theorem zero41 (w : World) : ob (w.alloc (.cells (Array.replicate 24 (.string ⟨#[]⟩)) 41)) w.heap.size = some (.cells (blk (fun _ => .string ⟨#[]⟩) 24) 41 (0, 0)) := al_new w (.cells (Array.replicate 24 (.string ⟨#[]⟩)) 41) rfl
theorem zero66 (w : World) : ob (w.alloc (.cells #[.int .i64 0, .int .i64 0, .int .i64 0, .int .i64 0, .int .i64 0, .int .i64 0, .int .i64 0, .int .i64 0, .int .i64 0, .int .i64 0] 66)) w.heap.size = some (.cells (blk (vI fun _ => 0) 10) 66 (0, 0)) := al_new w (.cells #[.int .i64 0, .int .i64 0, .int .i64 0, .int .i64 0, .int .i64 0, .int .i64 0, .int .i64 0, .int .i64 0, .int .i64 0, .int .i64 0] 66) rfl
set_option maxRecDepth 100000 in
set_option maxRecDepth 100000 in
set_option maxHeartbeats 800000 in
theorem pForms (w : World) : Calls Tryd.prog 17 #[] w fun e w' => e = .returned formsV ∧ Keep [] w w' := by
  have hk : Keep [] w ((w.alloc (.cells (Array.replicate 24 (.string ⟨#[]⟩)) 41)).setCells w.heap.size 0 (blk formsF 24).toList) := by
    refine ((Keep.refl [] w).alloc _).setCells (.inr (Nat.le_refl _)) _ _
  go_enter Tryd.func17, Tryd.ntmps17
  go_wp2_with (refine wpList_store_mid rfl 41 (.tmp 0) (.tmp 13) rfl w.heap.size 0 (blk formsF 24) rfl rfl (blk_there (zero41 w) (by rw [blk_size]; omega)) (by rw [size41, blk_size]) (blk_all _ _ (fun i _ => by unfold formsF; split <;> rfl)) ?_)
  refine bodyPost_ret (ret_row (P := Tryd.prog) Tryd.results17 (cs := blk formsF 24) (t := 41) (fr := (0, 0)) (g := w.heap.size) (store_blk (zero41 w)) rfl Tryd.underlying41 rfl (by rw [size41, blk_size])) rfl ?_
  exact ⟨by unfold formsV; rfl, hk⟩
set_option maxRecDepth 100000 in
set_option maxRecDepth 100000 in
set_option maxHeartbeats 800000 in
theorem pFields (w : World) : Calls Tryd.prog 33 #[] w fun e w' => e = .returned fieldsV ∧ Keep [] w w' := by
  have hk : Keep [] w ((w.alloc (.cells #[.int .i64 0, .int .i64 0, .int .i64 0, .int .i64 0, .int .i64 0, .int .i64 0, .int .i64 0, .int .i64 0, .int .i64 0, .int .i64 0] 66)).setCells w.heap.size 0 (blk (vI fieldsN) 10).toList) := by
    refine ((Keep.refl [] w).alloc _).setCells (.inr (Nat.le_refl _)) _ _
  go_enter Tryd.func33, Tryd.ntmps33
  go_wp2_with (refine wpList_store_mid rfl 66 (.tmp 0) (.tmp 6) rfl w.heap.size 0 (blk (vI fieldsN) 10) rfl rfl (blk_there (zero66 w) (by rw [blk_size]; omega)) (by rw [size66, blk_size]) (blk_all _ _ (fun i _ => rfl)) ?_)
  refine bodyPost_ret (ret_row (P := Tryd.prog) Tryd.results33 (cs := blk (vI fieldsN) 10) (t := 66) (fr := (0, 0)) (g := w.heap.size) (store_blk (zero66 w)) rfl Tryd.underlying66 rfl (by rw [size66, blk_size])) rfl ?_
  exact ⟨by unfold fieldsV; rfl, hk⟩
theorem idx41 (o : Nat) (ho : o < 12) (w : World) : (Instr.index 41 formsV (.int .i64 (o : Int))).run Tryd.prog w = .ok (.agg #[.string (wdB o), .string (nmB o)]) w := by
  obtain ⟨i, hi, hs⟩ := Option.map_eq_some_iff.1 size40
  have h := run_index_agg Tryd.underlying41 Tryd.underlying40 rfl hi hs formsF 24 rfl o ho w
  have e : blk (fun j => formsF (o * 2 + j)) 2 = #[.string (wdB o), .string (nmB o)] := by
    apply Array.ext
    · simp [blk]
    · intro j h1 h2
      simp at h2
      match j, h2 with
      | 0, _ => simp [blk, formsF]
      | 1, _ =>
        have : (o * 2 + 1) / 2 = o := by omega
        simp [blk, formsF, this]
  unfold formsV
  rw [h, e]
theorem idx66 (k : Nat) (hk : k < 5) (w : World) : (Instr.index 66 fieldsV (.int .i64 (k : Int))).run Tryd.prog w = .ok (.agg #[.int .i64 (fieldsN (k * 2)), .int .i64 (fieldsN (k * 2 + 1))]) w := by
  obtain ⟨i, hi, hs⟩ := Option.map_eq_some_iff.1 size65
  have h := run_index_agg Tryd.underlying66 Tryd.underlying65 rfl hi hs (vI fieldsN) 10 rfl k hk w
  unfold fieldsV
  rw [h]
  rfl
theorem idx44 (i : IN) (k : Nat) (hk : k < 5) (w : World) : (Instr.index 44 (splitV i) (.int .i64 (k : Int))).run Tryd.prog w = .ok (.int .i64 (i.f k)) w := by
  obtain ⟨i3, hi, hs⟩ := Option.map_eq_some_iff.1 (show (Tryd.prog.info? 3).map (·.size) = some 1 by kernel_rfl)
  unfold splitV
  exact run_index_int Tryd.underlying44 Tryd.underlying3 hi hs i.f k hk w
theorem zero44 (w : World) : ob (w.alloc (.cells #[.int .i64 0, .int .i64 0, .int .i64 0, .int .i64 0, .int .i64 0] 44)) w.heap.size = some (.cells (blk (vI fun _ => 0) 5) 44 (0, 0)) := al_new w (.cells #[.int .i64 0, .int .i64 0, .int .i64 0, .int .i64 0, .int .i64 0] 44) rfl
set_option maxRecDepth 100000 in
set_option maxRecDepth 100000 in
set_option maxHeartbeats 800000 in
theorem pSplit (w : World) (i : IN) : Calls Tryd.prog 18 #[inV i] w fun e w' => e = .returned (splitV i) ∧ Keep [] w w' := by
  unfold splitV
  have hf : blk (vI i.f) 5 = #[.int .i64 i.op, .int .i64 i.a, .int .i64 i.b, .int .i64 i.c, .int .i64 i.im] := rfl
  rw [hf]
  obtain ⟨op, a, b, c, im⟩ := i
  unfold inV
  clear hf
  simp only
  go_enter Tryd.func18, Tryd.ntmps18
  go_wp2_with fail
  have hrun : ∀ tmps : Array Value, tmps[2]?.getD undef = .pointer (some ⟨w.heap.size + 1, 0, none⟩) → (results Tryd.f18 tmps).run Tryd.prog ((w.alloc (.cells #[.int .i64 op, .int .i64 a, .int .i64 b, .int .i64 c, .int .i64 im] 23)).alloc (.cells #[.int .i64 op, .int .i64 a, .int .i64 b, .int .i64 c, .int .i64 im] 44)) = .ok (.agg #[.int .i64 op, .int .i64 a, .int .i64 b, .int .i64 c, .int .i64 im]) ((w.alloc (.cells #[.int .i64 op, .int .i64 a, .int .i64 b, .int .i64 c, .int .i64 im] 23)).alloc (.cells #[.int .i64 op, .int .i64 a, .int .i64 b, .int .i64 c, .int .i64 im] 44)) := by
    intro tmps ht
    simp [results, Tryd.f18, ht]
    go_simp
  exact ⟨by trivial, _, hrun _ rfl, rfl, ((Keep.refl _ _).alloc _).alloc _⟩
end Go.Proofs.YtajlpicdkdeceaaDoor
