import Derived.Test.YtjiienoflgolpaaLibM
import Derived.Test.YtjiienoflgolpaaLibO
import Derived.Test.YtjiienoflgolpaaLibB
import Derived.Laws.OwnMore
import Derived.Deep.RegionHeld3
import Derived.Test.YtjiienoflgolpaaRows

namespace Go.Proofs.Ytjiienoflgolpaa
open Go.RowKit
set_option linter.unusedSimpArgs false
set_option linter.unusedVariables false
attribute [local go_sem] ob_alloc ob_drew ob_drewN ob_setCell ob_setBlock objSet_cells obMap_map obClock_map isMapI_map keyI_mk findI_nil findI_cons lookRes_some lookRes_none lookRes_some' lookRes_none' setBlock_alloc mapPut

/-! ### the monitor, as 48 numbers -/
def updI (f : Nat → Int) (i : Nat) (v : Int) : Nat → Int := fun j => if j = i then v else f j
def vI (s : Nat → Int) : Nat → Value := fun i => .int .i64 (s i)
theorem vI_upd (s : Nat → Int) (i : Nat) (x : Int) : upd (vI s) i (.int .i64 x) = vI (updI s i x) := by
  funext j; unfold upd vI updI; split <;> rfl
def HMon (w : World) (p : Nat) (s : Nat → Int) : Prop := ob w p = some (.cells (blk (vI s) 48) 104 (0, 0))
def RMon (w : World) (p : Nat) (s : Nat → Int) : Prop := ob w p = some (.cells (blk (vI s) 128) 111 (0, 0))

theorem HMon.cell {w : World} {p : Nat} {s : Nat → Int} (h : HMon w p s) (i : Nat) (hi : i < 48) : w.cell? ⟨p, i, none⟩ = some (.int .i64 (s i)) := blk_cell h hi
theorem RMon.cell {w : World} {p : Nat} {s : Nat → Int} (h : RMon w p s) (i : Nat) (hi : i < 128) : w.cell? ⟨p, i, none⟩ = some (.int .i64 (s i)) := blk_cell h hi
theorem HMon.store {w : World} {p : Nat} {s : Nat → Int} (h : HMon w p s) (i : Nat) (x : Int) : HMon (w.setCell ⟨p, i, none⟩ (.int .i64 x)) p (updI s i x) := by
  unfold HMon; rw [← vI_upd]; exact blk_store h i _
theorem RMon.store {w : World} {p : Nat} {s : Nat → Int} (h : RMon w p s) (i : Nat) (x : Int) : RMon (w.setCell ⟨p, i, none⟩ (.int .i64 x)) p (updI s i x) := by
  unfold RMon; rw [← vI_upd]; exact blk_store h i _
theorem HMon.congr {w : World} {p : Nat} {s t : Nat → Int} (h : HMon w p s) (e : ∀ i, i < 48 → s i = t i) : HMon w p t := by
  unfold HMon; rw [← blk_congr (f := vI s) (fun i hi => by unfold vI; rw [e i hi])]; exact h
theorem RMon.congr {w : World} {p : Nat} {s t : Nat → Int} (h : RMon w p s) (e : ∀ i, i < 128 → s i = t i) : RMon w p t := by
  unfold RMon; rw [← blk_congr (f := vI s) (fun i hi => by unfold vI; rw [e i hi])]; exact h

def kOk (k : Int) : Bool := decide (k = 9 ∨ k = 10 ∨ k = 11 ∨ k = 13)
def kIx (k : Int) : Nat := if k = 9 then 0 else if k = 10 then 1 else if k = 11 then 2 else 3
def pOk (p : Int) : Bool := decide (0 ≤ p ∧ p ≤ 7)
theorem kIx_lt (k : Int) : kIx k < 4 := by unfold kIx; split; omega; split; omega; split <;> omega

def kindL : List (Int × Int) := [(9, 0), (10, 1), (11, 2), (13, 3)]
theorem kind_look (k : Int) : kindL.lookup k = if kOk k then some (kIx k : Int) else none := by
  unfold kindL kOk kIx
  simp only [List.lookup_cons, List.lookup_nil]
  by_cases h1 : k = 9
  · subst h1; rfl
  by_cases h2 : k = 10
  · subst h2; rfl
  by_cases h3 : k = 11
  · subst h3; rfl
  by_cases h4 : k = 13
  · subst h4; rfl
  have e1 : (k == 9) = false := by simpa using h1
  have e2 : (k == 10) = false := by simpa using h2
  have e3 : (k == 11) = false := by simpa using h3
  have e4 : (k == 13) = false := by simpa using h4
  simp [e1, e2, e3, e4, h1, h2, h3, h4]

theorem kinds_any (w : World) : Calls Try.prog 56 #[] w fun o w' => ∃ m, o = .returned (.map (some m)) ∧ MapL w' m .i64 (fun x : Int => Value.int .i64 x) kindL ∧ Keep [] w w' := by
  have hmm := @run_makeMap Try.prog
  obtain ⟨w1, r1, m1, k1, s1⟩ := (MapL.new (q := .i64) (val := fun x : Int => Value.int .i64 x) (al_new w (.map #[] 0) rfl)).put_new (P := Try.prog) Try.underlying114 Try.underlying25 9 0 rfl
  obtain ⟨w2, r2, m2, k2, s2⟩ := m1.put_new (P := Try.prog) Try.underlying114 Try.underlying25 10 1 rfl
  obtain ⟨w3, r3, m3, k3, s3⟩ := m2.put_new (P := Try.prog) Try.underlying114 Try.underlying25 11 2 rfl
  obtain ⟨w4, r4, m4, k4, s4⟩ := m3.put_new (P := Try.prog) Try.underlying114 Try.underlying25 13 3 rfl
  have hk : Keep [] w w4 := (((((Keep.refl [] w).alloc (.map #[] 0)).andThen k1 (by simp)).andThen k2 (by simp)).andThen k3 (by simp)).andThen k4 (by simp)
  clear k1 k2 k3 k4
  go_enter Try.func56, Try.ntmps56
  go_wp2
  go_ret
  exact ⟨_, rfl, m4, hk⟩
end Go.Proofs.Ytjiienoflgolpaa
