import Derived.Test.YtjiienoflgolpaaLibM
import Derived.Test.YtjiienoflgolpaaLibO
import Derived.Test.YtjiienoflgolpaaLibB
import Derived.Laws.OwnMore
import Derived.Laws.CopyOwn
import Derived.ChangeKeysEq
import Derived.Deep.RegionHeld3
import Derived.Test.YtjiienoflgolpaaRows
namespace Go.Proofs.Ytjiienoflgolpaa
open Go.RowKit
set_option linter.unusedSimpArgs false
set_option linter.unusedVariables false
attribute [local go_sem] ob_alloc ob_drew ob_drewN ob_setCell ob_setBlock objSet_cells obMap_map obClock_map isMapI_map keyI_mk findI_nil findI_cons lookRes_some lookRes_none lookRes_some' lookRes_none' setBlock_alloc mapPut

/-! ### words by their places -/
def vU (s : Nat → Int) : Nat → Value := fun i => .int .u64 (s i)
def updW (f : Nat → Int) (i : Nat) (v : Int) : Nat → Int := fun j => if j = i then v else f j
theorem vU_upd (s : Nat → Int) (i : Nat) (x : Int) : upd (vU s) i (.int .u64 x) = vU (updW s i x) := by
  funext j; unfold upd vU updW; split <;> rfl
/-- words from a place on -/
def updB (s : Nat → Int) (o n : Nat) (t : Nat → Int) : Nat → Int := fun j => if o ≤ j ∧ j < o + n then t (j - o) else s j
theorem updR_vU (s t : Nat → Int) (o n : Nat) : updR (vU s) o (blk (vU t) n).toList = vU (updB s o n t) := by
  funext j
  have hl : (blk (vU t) n).toList.length = n := by simp [blk]
  unfold updR
  rw [hl]
  simp only [vU, updB]
  by_cases h : o ≤ j ∧ j < o + n
  · rw [if_pos h, if_pos h]
    have hj : j - o < n := by omega
    simp [blk, hj]
    rfl
  · rw [if_neg h, if_neg h]
theorem blk_splice (f : Nat → Value) (n o : Nat) (vs : List Value) (h : o + vs.length ≤ n) : ((blk f n).toList.take o ++ (vs ++ (blk f n).toList.drop (o + vs.length))).toArray = blk (updR f o vs) n := by
  apply Array.ext
  · simp [blk]; omega
  · intro j h1 h2
    have hj : j < n := by simpa [blk] using h2
    have e : (blk (updR f o vs) n)[j] = updR f o vs j := by simp [blk]
    rw [e]
    simp only [List.getElem_toArray]
    unfold updR
    by_cases a : j < o
    · rw [if_neg (by omega), List.getElem_append_left (by simp [blk]; omega)]
      simp [blk]
    · rw [List.getElem_append_right (by simp [blk]; omega)]
      have el : ((blk f n).toList.take o).length = o := by simp [blk]; omega
      simp only [el]
      by_cases b : j < o + vs.length
      · rw [if_pos ⟨by omega, b⟩, List.getElem_append_left (by omega)]
        simp [List.getD, List.getElem?_eq_getElem (show j - o < vs.length by omega)]
      · rw [if_neg (by omega), List.getElem_append_right (by omega)]
        simp only [List.getElem_drop]
        simp [blk]
        congr 1; omega
theorem madeCells_same (v : Value) (k n : Nat) (hk : 0 < k) : madeCells (Array.replicate k v) n = blk (fun _ => v) n := by
  apply Array.ext
  · simp [madeCells, blk]
  · intro j h1 h2
    have : j % k < k := Nat.mod_lt _ hk
    simp [madeCells, blk, this]

/-! ### '==' on arrays of numbers -/
theorem part_int {P : Program} {e : TypeId} {k : IntKind} {i : TypeInfo} (he : P.underlying e = some (.int k)) (hi : P.info? e = some i) (hs : i.size = 1) (f : Nat → Int) (n j : Nat) (hj : j < n) (w : World) :
    (part e (blk (fun i => .int k (f i)) n) (j * 1)).run P w = .ok (.int k (f j)) w := by
  have hg : (blk (fun i => Value.int k (f i)) n)[j]? = some (.int k (f j)) := blk_get _ hj
  simp [part, run_underlying he, sizeOf, typeInfo, hi, hs, hg, isAgg]
theorem eqItems_ints {P : Program} {e : TypeId} {k : IntKind} {i : TypeInfo} (he : P.underlying e = some (.int k)) (hi : P.info? e = some i) (hs : i.size = 1) (d : Nat) (f g : Nat → Int) (n : Nat) (w : World) :
    ∀ js : List Nat, (∀ j, j ∈ js → j < n) → (Op.eqItems (d + 1) e 1 (blk (fun i => .int k (f i)) n) (blk (fun i => .int k (g i)) n) js).run P w = .ok (js.all fun j => f j == g j) w
  | [], _ => rfl
  | j :: js, h => by
    have ih := eqItems_ints he hi hs d f g n w js (fun a ha => h a (List.mem_cons_of_mem _ ha))
    have p1 := part_int (P := P) he hi hs f n j (h j (by simp)) w
    have p2 := part_int (P := P) he hi hs g n j (h j (by simp)) w
    have p3 : (Op.equalIn (d + 1) e (.int k (f j)) (.int k (g j))).run P w = .ok (f j == g j) w := by
      simp [Op.equalIn, run_underlying he]
    simp only [Op.eqItems, Sem.run_bind, p1, p2, p3, Result.andThen_ok, List.all_cons]
    cases hfg : (f j == g j)
    · simp
    · simpa using ih

/-- are sixteen the same? -/
def eqB (f g : Nat → Int) : Bool := (List.range 16).all fun j => f j == g j
theorem eqB_iff (f g : Nat → Int) : eqB f g = true ↔ ∀ j, j < 16 → f j = g j := by
  unfold eqB; simp [List.all_eq_true]
set_option maxRecDepth 100000 in
theorem eqIn80 (f g : Nat → Int) (w : World) : (Op.equalIn 10000 80 (.agg (blk (vU f) 16)) (.agg (blk (vU g) 16))).run Try.prog w = .ok (eqB f g) w := by
  obtain ⟨i0, hi0⟩ : ∃ i, Try.prog.info? 44 = some i := ⟨_, rfl⟩
  have hs : i0.size = 1 := by
    have : (Try.prog.info? 44).map (·.size) = some 1 := by kernel_rfl
    rw [hi0] at this; simpa using this
  have hc : Try.prog.cellsOf 44 = 1 := by kernel_rfl
  have ha := run_equalIn_array (P := Try.prog) w 9999 (blk (vU f) 16) (blk (vU g) 16) Try.underlying80 hi0
  rw [hc] at ha
  exact ha.trans (eqItems_ints (P := Try.prog) Try.underlying44 hi0 hs 9998 f g 16 w (List.range 16) (by simp))

/-! ### the two memories -/
def MemAt (w : World) (m g n : Nat) (s : Nat → Int) : Prop :=
  ob w m = some (.cells #[.slice (some ⟨g, 0, none⟩) n n] 96 (0, 0)) ∧ ob w g = some (.cells (blk (vU s) (n * 16)) 80 (0, 0)) ∧ g ≠ m ∧ 1 ≤ n ∧ n ≤ 256
def RMemAt (w : World) (m g n : Nat) (s : Nat → Int) : Prop :=
  ob w m = some (.cells #[.slice (some ⟨g, 0, none⟩) (n * 16) (n * 16)] 86 (0, 0)) ∧ ob w g = some (.cells (blk (vU s) (n * 16)) 44 (0, 0)) ∧ g ≠ m ∧ 1 ≤ n ∧ n ≤ 256
theorem MemAt.keep {w w' : World} {m g n : Nat} {s : Nat → Int} {S : List Nat} (h : MemAt w m g n s) (hk : Keep S w w') (hm : m ∉ S) (hg : g ∉ S) : MemAt w' m g n s :=
  ⟨hk.kp h.1 hm, hk.kp h.2.1 hg, h.2.2⟩
theorem RMemAt.keep {w w' : World} {m g n : Nat} {s : Nat → Int} {S : List Nat} (h : RMemAt w m g n s) (hk : Keep S w w') (hm : m ∉ S) (hg : g ∉ S) : RMemAt w' m g n s :=
  ⟨hk.kp h.1 hm, hk.kp h.2.1 hg, h.2.2⟩
theorem MemAt.store {w : World} {m g n : Nat} {s : Nat → Int} (h : MemAt w m g n s) (i : Nat) (x : Int) : MemAt (w.setCell ⟨g, i, none⟩ (.int .u64 x)) m g n (updW s i x) :=
  ⟨st h.1 h.2.2.1.symm, by rw [← vU_upd]; exact blk_store h.2.1 i _, h.2.2⟩
theorem RMemAt.store {w : World} {m g n : Nat} {s : Nat → Int} (h : RMemAt w m g n s) (i : Nat) (x : Int) : RMemAt (w.setCell ⟨g, i, none⟩ (.int .u64 x)) m g n (updW s i x) :=
  ⟨st h.1 h.2.2.1.symm, by rw [← vU_upd]; exact blk_store h.2.1 i _, h.2.2⟩
theorem MemAt.cell {w : World} {m g n : Nat} {s : Nat → Int} (h : MemAt w m g n s) (i : Nat) (hi : i < n * 16) : w.cell? ⟨g, i, none⟩ = some (.int .u64 (s i)) := blk_cell h.2.1 hi
theorem RMemAt.cell {w : World} {m g n : Nat} {s : Nat → Int} (h : RMemAt w m g n s) (i : Nat) (hi : i < n * 16) : w.cell? ⟨g, i, none⟩ = some (.int .u64 (s i)) := blk_cell h.2.1 hi
theorem MemAt.congr {w : World} {m g n : Nat} {s t : Nat → Int} (h : MemAt w m g n s) (e : ∀ i, i < n * 16 → s i = t i) : MemAt w m g n t :=
  ⟨h.1, by rw [← blk_congr (f := vU s) (fun i hi => by unfold vU; rw [e i hi])]; exact h.2.1, h.2.2⟩
theorem RMemAt.congr {w : World} {m g n : Nat} {s t : Nat → Int} (h : RMemAt w m g n s) (e : ∀ i, i < n * 16 → s i = t i) : RMemAt w m g n t :=
  ⟨h.1, by rw [← blk_congr (f := vU s) (fun i hi => by unfold vU; rw [e i hi])]; exact h.2.1, h.2.2⟩
def okFrames (n : Int) : Bool := decide (1 ≤ n ∧ n ≤ 256)
theorem info44 : (Try.prog.info? 44).map (fun i => (i.zero, i.size, i.bytes)) = some (some (.int .u64 0), 1, 8) := by kernel_rfl
theorem info80 : (Try.prog.info? 80).map (fun i => (i.zero, i.size, i.bytes)) = some (some (.agg (Array.replicate 16 (.int .u64 0))), 16, 128) := by kernel_rfl
theorem make94 (n : Nat) (hn : n ≤ 256) (w : World) : (Instr.makeSlice 94 (.int .i64 (n : Int)) (.int .i64 (n : Int))).run Try.prog w = .ok (.slice (some ⟨w.heap.size, 0, none⟩) n n) (w.alloc (.cells (blk (vU fun _ => 0) (n * 16)) 80)) := by
  obtain ⟨i, hi, hz⟩ := Option.map_eq_some_iff.1 info80
  simp only [Prod.mk.injEq] at hz
  obtain ⟨h1, h2, h3⟩ := hz
  have hr := run_make (P := Try.prog) (w := w) 94 80 i _ Try.underlying94 hi h1 .i64 .i64 n n (by omega) (by omega) (by rw [h3]; omega) (by omega)
  simp only [Int.toNat_natCast, h2] at hr
  have e : madeCells (Value.agg (Array.replicate 16 (.int .u64 0))).cells (n * 16) = blk (vU fun _ => 0) (n * 16) := madeCells_same _ 16 _ (by omega)
  rw [hr, e]
theorem make31 (n : Nat) (hn : n ≤ 100000) (w : World) : (Instr.makeSlice 31 (.int .i64 (n : Int)) (.int .i64 (n : Int))).run Try.prog w = .ok (.slice (some ⟨w.heap.size, 0, none⟩) n n) (w.alloc (.cells (blk (vU fun _ => 0) n) 44)) := by
  have := make_row (P := Try.prog) Try.underlying31 info44 rfl n (by omega) (by omega) w
  have e : zeros (.int .u64 0) n = blk (vU fun _ => 0) n := madeCells_same _ 1 _ (by omega)
  rw [this, e]
end Go.Proofs.Ytjiienoflgolpaa
