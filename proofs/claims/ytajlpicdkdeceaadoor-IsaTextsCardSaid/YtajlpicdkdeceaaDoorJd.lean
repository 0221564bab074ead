import Derived.Test.YtajlpicdkdeceaaDoorJc
import Derived.FnData
import Derived.Deep.RegionLaw
namespace Go.Proofs.YtajlpicdkdeceaaDoor
open Go.RowKit
set_option linter.unusedSimpArgs false
set_option linter.unusedVariables false
attribute [local go_sem] ob_alloc ob_drew ob_drewN ob_setCell ob_setBlock objSet_cells obMap_map obClock_map isMapI_map keyI_mk findI_nil findI_cons lookRes_some lookRes_none lookRes_some' lookRes_none' setBlock_alloc mapPut
open Go.Lib

/-! ### what the library's variables hold -/
theorem var_keep {w w' : World} (hk : Keep [] w w') {n : String} {cs : Array Value} (h : w.var? Tryd.prog n = some cs) : w'.var? Tryd.prog n = some cs := by
  unfold World.var? at h ⊢
  cases hg : Tryd.prog.globalNamed n with
  | none => rw [hg] at h; cases h
  | some g =>
    rw [hg] at h
    simp only [Option.bind_eq_bind, Option.bind_some] at h ⊢
    have hlt : g < w.heap.size := by
      rcases Nat.lt_or_ge g w.heap.size with h1 | h1
      · exact h1
      · rw [Array.getElem?_eq_none h1] at h; cases h
    have := hk.block g hlt (by simp)
    unfold ob at this
    rw [this]
    exact h
structure Env (w : World) : Prop where
  mx : ∃ m, w.cell? ⟨0, 0, none⟩ = some (.int .i64 m)
  z : 0 < w.heap.size
  tab : TabIs Tryd.prog w "internal/strconv.uint64pow10" .u64 pow10Tab
  syn : ∃ tp p, w.var? Tryd.prog "strconv.ErrSyntax" = some #[.iface tp p]
  rng : ∃ tp p, w.var? Tryd.prog "strconv.ErrRange" = some #[.iface tp p]
theorem Env.keep {w w' : World} (h : Env w) (hk : Keep [] w w') : Env w' := by
  obtain ⟨⟨m, h1⟩, h2, h3, ⟨t1, p1, h4⟩, t2, p2, h5⟩ := h
  exact ⟨⟨m, (cell_old hk h2).trans h1⟩, Nat.lt_of_lt_of_le h2 hk.size, var_keep hk h3, ⟨t1, p1, var_keep hk h4⟩, t2, p2, var_keep hk h5⟩
theorem keep_grow {w : World} {k : Nat} {os : Array Obj} : Keep [] w (Go.Sort.grow (w.drewN k) os) := by
  refine ⟨rfl, rfl, rfl, ?_, fun b hb _ => ?_⟩
  · simp [Go.Sort.grow]
  · simp only [Go.Sort.grow, ob]
    rw [Array.getElem?_append_left (by simpa using hb)]
    rfl
def decB (n : Int) : ByteArray := ⟨(decDigits n.toNat).toArray⟩
theorem pItoa (w : World) (n : Int) (h0 : 0 ≤ n) (h1 : n ≤ 65535) (hE : Env w) : Calls Tryd.prog 20 #[.int .i64 n] w fun e w' => e = .returned (.string (decB n)) ∧ Keep [] w w' := by
  refine (Tryd.strconv_Itoa n (by omega) (by omega) w hE.tab).mono ?_
  rintro e w' ⟨rfl, k, os, rfl⟩
  refine ⟨?_, keep_grow⟩
  unfold decB itoa
  rw [if_neg (by omega)]
end Go.Proofs.YtajlpicdkdeceaaDoor
