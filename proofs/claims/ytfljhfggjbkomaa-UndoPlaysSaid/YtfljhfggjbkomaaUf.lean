import Derived.Test.YtfljhfggjbkomaaUe
import Derived.Test.YtfljhfggjbkomaaLibO
namespace Go.Proofs.Ytfljhfggjbkomaa
open Go.RowKit
set_option linter.unusedSimpArgs false
set_option linter.unusedVariables false
attribute [local go_sem] ob_alloc ob_drew ob_drewN ob_setCell ob_setBlock objSet_cells obMap_map obClock_map isMapI_map keyI_mk findI_nil findI_cons lookRes_some lookRes_none lookRes_some' lookRes_none' setBlock_alloc mapPut

/-! ### '==' on the four cells -/
def quad (C : Nat → Int) : Array Value := #[.int .i64 (C 0), .int .i64 (C 1), .int .i64 (C 2), .int .i64 (C 3)]
theorem quad_blk (C : Nat → Int) : quad C = blk (vI C) 4 := rfl
theorem eq27_in (C D : Nat → Int) (w : World) : (Op.equalIn 10000 27 (.agg (quad C)) (.agg (quad D))).run Try.prog w = .ok ((List.range 4).all fun j => C j == D j) w := by
  have h0 : (Try.prog.info? 3).map (·.size) = some 1 := by kernel_rfl
  obtain ⟨i, hi, hs⟩ := Option.map_eq_some_iff.1 h0
  have hc : Try.prog.cellsOf 3 = 1 := by kernel_rfl
  have ha := run_equalIn_array (P := Try.prog) w 9999 (blk (vI C) 4) (blk (vI D) 4) Try.underlying27 hi
  rw [hc] at ha
  rw [quad_blk, quad_blk]
  exact ha.trans (eqItems_ints (P := Try.prog) Try.underlying3 hi hs 9998 C D 4 w (List.range 4) (by simp))
theorem eql27 (C D : Nat → Int) (w : World) : (binOp .eql 27 (.agg (quad C)) (.agg (quad D))).run Try.prog w = .ok (.bool ((List.range 4).all fun j => C j == D j)) w := by
  have h3 : (Op.equal 27 (.agg (quad C)) (.agg (quad D))).run Try.prog w = _ := eq27_in C D w
  simp [binOp, h3]
theorem neq27 (C D : Nat → Int) (w : World) : (binOp .neq 27 (.agg (quad C)) (.agg (quad D))).run Try.prog w = .ok (.bool !((List.range 4).all fun j => C j == D j)) w := by
  have h3 : (Op.equal 27 (.agg (quad C)) (.agg (quad D))).run Try.prog w = _ := eq27_in C D w
  simp [binOp, h3]
theorem all4 (C D : Nat → Int) (h : ∀ j, j < 4 → C j = D j) : ((List.range 4).all fun j => C j == D j) = true := by
  rw [List.all_eq_true]
  intro j hj
  simp only [List.mem_range] at hj
  simp [h j hj]
theorem quad4 (a b c d : Int) : quad (fun j => if j = 0 then a else if j = 1 then b else if j = 2 then c else d) = #[.int .i64 a, .int .i64 b, .int .i64 c, .int .i64 d] := rfl
theorem eql27l (a b c d a' b' c' d' : Int) (w : World) : (binOp .eql 27 (.agg #[.int .i64 a, .int .i64 b, .int .i64 c, .int .i64 d]) (.agg #[.int .i64 a', .int .i64 b', .int .i64 c', .int .i64 d'])).run Try.prog w = .ok (.bool (a == a' && b == b' && c == c' && d == d')) w := by
  rw [← quad4, ← quad4, eql27]
  simp [List.range, List.range.loop, Bool.and_assoc]
theorem neq27l (a b c d a' b' c' d' : Int) (w : World) : (binOp .neq 27 (.agg #[.int .i64 a, .int .i64 b, .int .i64 c, .int .i64 d]) (.agg #[.int .i64 a', .int .i64 b', .int .i64 c', .int .i64 d'])).run Try.prog w = .ok (.bool !(a == a' && b == b' && c == c' && d == d')) w := by
  rw [← quad4, ← quad4, neq27]
  simp [List.range, List.range.loop, Bool.and_assoc]
/-! ### numbers -/
def In4 (C : Nat → Int) : Prop := ∀ j, j < 4 → -9223372036854775808 ≤ C j ∧ C j ≤ 9223372036854775807
theorem wrap64_bd (n : Int) : -9223372036854775808 ≤ wrap64 n ∧ wrap64 n ≤ 9223372036854775807 := by unfold wrap64; omega
theorem In4.doC {C : Nat → Int} (h : In4 C) (o : OpB) : In4 (doC C o) := by
  intro j hj
  show -9223372036854775808 ≤ updC C _ _ j ∧ updC C _ _ j ≤ 9223372036854775807
  unfold updC
  split
  · exact wrap64_bd _
  · exact h j hj
theorem un_do {C : Nat → Int} (h : In4 C) (o : OpB) : unC (doC C o) o = C := by
  funext j
  unfold unC doC updC
  have hb := h (opQ o) (opQ_lt o)
  by_cases e : j = opQ o
  · subst e
    simp only [if_true]
    unfold wrap64
    omega
  · simp only [if_neg e]
theorem rollC_snoc (C : Nat → Int) (L : List Cl) (c : Cl) : rollC C (L ++ [c]) = rollC (c.fC C) L := by
  induction L with
  | nil => rfl
  | cons d L ih => simp only [List.cons_append, rollC, ih]
theorem rollE_snoc (L : List Cl) (c : Cl) : rollE (L ++ [c]) = c.ev ++ rollE L := by
  induction L with
  | nil => simp [rollE]
  | cons d L ih => simp only [List.cons_append, rollE, ih, List.append_assoc]
/-! ### the steps of an argument -/
def dec3 (c : List Value) : OpB := match c with
  | [.int _ a, .int _ b, .int _ f] => ⟨a, b, f⟩
  | _ => ⟨0, 0, 0⟩
def ops3 (xs : List (List Value)) (j : Nat) : OpB := dec3 (xs.getD j [])
def Arg3 (bb off : Nat) (o : OpB) (j : Nat) (w : World) : Prop :=
  w.cell? ⟨bb, off + j * 3, none⟩ = some (.int .i64 o.cell) ∧ w.cell? ⟨bb, off + j * 3 + 1, none⟩ = some (.int .i64 o.add) ∧ w.cell? ⟨bb, off + j * 3 + 2, none⟩ = some (.int .i64 o.fail)
theorem args3 {W0 : World} {v0 : Value} {xs : List (List Value)} (hv : RdA W0 3 v0 xs) (hx : ∀ c ∈ xs, GCells W0 [.int .i64, .int .i64, .int .i64] c) (h0 : 0 < xs.length) :
    ∃ bb off cap, v0 = .slice (some ⟨bb, off, none⟩) xs.length cap ∧ bb < W0.heap.size ∧ ∀ w, Keep [] W0 w → ∀ j, j < xs.length → Arg3 bb off (ops3 xs j) j w := by
  obtain ⟨bb, off, cap, e, hb, _⟩ := hv.2 h0
  refine ⟨bb, off, cap, e, hb, fun w hk j hj => ?_⟩
  obtain ⟨bb', off', cap', e', hb', hc⟩ := (hv.keep hk (by simp)).2 h0
  rw [e] at e'
  simp only [Value.slice.injEq, Option.some.injEq, Addr.mk.injEq, and_true, true_and] at e'
  obtain ⟨⟨rfl, rfl⟩, rfl⟩ := e'
  have hxk : xs[j]? = some (xs[j]'hj) := List.getElem?_eq_getElem _
  obtain ⟨_, hr⟩ := hc j _ hxk
  have hen : ops3 xs j = dec3 (xs[j]'hj) := by unfold ops3; rw [List.getD_eq_getElem?_getD, hxk]; rfl
  obtain ⟨_, _, hxe, ⟨a, rfl, _⟩, _, _, rfl, ⟨b, rfl, _⟩, _, _, rfl, ⟨f, rfl, _⟩, rfl⟩ := hx _ (List.getElem_mem hj)
  unfold Arg3
  rw [hen]
  rw [hxe] at hr ⊢
  have h0 := hr 0 _ rfl
  rw [Nat.add_zero] at h0
  exact ⟨h0, hr 1 _ rfl, hr 2 _ rfl⟩
end Go.Proofs.Ytfljhfggjbkomaa
