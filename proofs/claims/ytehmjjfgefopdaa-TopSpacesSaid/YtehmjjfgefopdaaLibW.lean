/- Words and numbers by their places; '==' on arrays of numbers; an array's element by value. -/
import Derived.Test.YtehmjjfgefopdaaLibM
import Derived.Test.YtehmjjfgefopdaaLibO
import Derived.Test.YtehmjjfgefopdaaLibB
import Derived.Laws.OwnMore
import Derived.Laws.CopyOwn
import Derived.ChangeKeysEq
import Derived.Deep.RegionHeld3
namespace Go.Proofs.Ytehmjjfgefopdaa
open Go.RowKit
set_option linter.unusedSimpArgs false
set_option linter.unusedVariables false

/-! ### words by their places -/
def vU (s : Nat → Int) : Nat → Value := fun i => .int .u64 (s i)
def updW (f : Nat → Int) (i : Nat) (v : Int) : Nat → Int := fun j => if j = i then v else f j
theorem vU_upd (s : Nat → Int) (i : Nat) (x : Int) : upd (vU s) i (.int .u64 x) = vU (updW s i x) := by
  funext j; unfold upd vU updW; split <;> rfl
/-- words from a place on -/
def updB (s : Nat → Int) (o n : Nat) (t : Nat → Int) : Nat → Int := fun j => if o ≤ j ∧ j < o + n then t (j - o) else s j
theorem updR_vU (s t : Nat → Int) (o n : Nat) : updR (vU s) o (blk (vU t) n).toList = vU (updB s o n t) := by
  funext j
  have hl : (blk (vU t) n).toList.length = n := by simp [blk]
  unfold updR
  rw [hl]
  simp only [vU, updB]
  by_cases h : o ≤ j ∧ j < o + n
  · rw [if_pos h, if_pos h]
    have hj : j - o < n := by omega
    simp [blk, hj]
    rfl
  · rw [if_neg h, if_neg h]
theorem blk_splice (f : Nat → Value) (n o : Nat) (vs : List Value) (h : o + vs.length ≤ n) : ((blk f n).toList.take o ++ (vs ++ (blk f n).toList.drop (o + vs.length))).toArray = blk (updR f o vs) n := by
  apply Array.ext
  · simp [blk]; omega
  · intro j h1 h2
    have hj : j < n := by simpa [blk] using h2
    have e : (blk (updR f o vs) n)[j] = updR f o vs j := by simp [blk]
    rw [e]
    simp only [List.getElem_toArray]
    unfold updR
    by_cases a : j < o
    · rw [if_neg (by omega), List.getElem_append_left (by simp [blk]; omega)]
      simp [blk]
    · rw [List.getElem_append_right (by simp [blk]; omega)]
      have el : ((blk f n).toList.take o).length = o := by simp [blk]; omega
      simp only [el]
      by_cases b : j < o + vs.length
      · rw [if_pos ⟨by omega, b⟩, List.getElem_append_left (by omega)]
        simp [List.getD, List.getElem?_eq_getElem (show j - o < vs.length by omega)]
      · rw [if_neg (by omega), List.getElem_append_right (by omega)]
        simp only [List.getElem_drop]
        simp [blk]
        congr 1; omega
theorem madeCells_same (v : Value) (k n : Nat) (hk : 0 < k) : madeCells (Array.replicate k v) n = blk (fun _ => v) n := by
  apply Array.ext
  · simp [madeCells, blk]
  · intro j h1 h2
    have : j % k < k := Nat.mod_lt _ hk
    simp [madeCells, blk, this]

/-! ### '==' on arrays of numbers -/
theorem part_int {P : Program} {e : TypeId} {k : IntKind} {i : TypeInfo} (he : P.underlying e = some (.int k)) (hi : P.info? e = some i) (hs : i.size = 1) (f : Nat → Int) (n j : Nat) (hj : j < n) (w : World) :
    (part e (blk (fun i => .int k (f i)) n) (j * 1)).run P w = .ok (.int k (f j)) w := by
  have hg : (blk (fun i => Value.int k (f i)) n)[j]? = some (.int k (f j)) := blk_get _ hj
  simp [part, run_underlying he, sizeOf, typeInfo, hi, hs, hg, isAgg]
theorem eqItems_ints {P : Program} {e : TypeId} {k : IntKind} {i : TypeInfo} (he : P.underlying e = some (.int k)) (hi : P.info? e = some i) (hs : i.size = 1) (d : Nat) (f g : Nat → Int) (n : Nat) (w : World) :
    ∀ js : List Nat, (∀ j, j ∈ js → j < n) → (Op.eqItems (d + 1) e 1 (blk (fun i => .int k (f i)) n) (blk (fun i => .int k (g i)) n) js).run P w = .ok (js.all fun j => f j == g j) w
  | [], _ => rfl
  | j :: js, h => by
    have ih := eqItems_ints he hi hs d f g n w js (fun a ha => h a (List.mem_cons_of_mem _ ha))
    have p1 := part_int (P := P) he hi hs f n j (h j (by simp)) w
    have p2 := part_int (P := P) he hi hs g n j (h j (by simp)) w
    have p3 : (Op.equalIn (d + 1) e (.int k (f j)) (.int k (g j))).run P w = .ok (f j == g j) w := by
      simp [Op.equalIn, run_underlying he]
    simp only [Op.eqItems, Sem.run_bind, p1, p2, p3, Result.andThen_ok, List.all_cons]
    cases hfg : (f j == g j)
    · simp
    · simpa using ih


def vI (s : Nat → Int) : Nat → Value := fun i => .int .i64 (s i)
theorem vI_upd (s : Nat → Int) (i : Nat) (x : Int) : upd (vI s) i (.int .i64 x) = vI (updW s i x) := by
  funext j; unfold upd vI updW; split <;> rfl
theorem range_ob {w : World} {b : Nat} {X : Array Value} {t : TypeId} {f : Nat × Nat} (h : ob w b = some (.cells X t f)) : w.rangeAt b 0 X.toList := fun j v hv => by
  rw [cell_of_ob h, Nat.zero_add]; simpa using hv
theorem blk_len (f : Nat → Value) (n : Nat) : (blk f n).toList.length = n := by simp [blk]
theorem blk_all (f : Nat → Value) (n : Nat) (h : ∀ i, i < n → (f i).oneCell' = true) : (blk f n).all (·.oneCell') = true := by
  refine Array.all_eq_true_iff_forall_mem.2 (fun v hv => ?_)
  simp [blk] at hv
  obtain ⟨i, hi, rfl⟩ := hv
  exact h i hi
theorem blk_all' (f : Nat → Value) (n : Nat) (h : ∀ i, i < n → (f i).oneCell' = true) : ∀ v ∈ (blk f n).toList, v.oneCell' = true := by
  intro v hv
  simp [blk] at hv
  obtain ⟨i, hi, rfl⟩ := hv
  exact h i hi
/-- all cells written -/
theorem store_blk {w : World} {b n : Nat} {f g : Nat → Value} {t : TypeId} (h : ob w b = some (.cells (blk f n) t (0, 0))) : ob (w.setCells b 0 (blk g n).toList) b = some (.cells (blk g n) t (0, 0)) := by
  rw [blk_storeR _ _ _ _ h]
  rw [blk_congr (g := g) (fun i hi => ?_)]
  unfold updR
  rw [blk_len, if_pos (by omega)]
  simp [blk, hi]
/-- a part of a block, as a list -/
theorem blk_rangeF {w : World} {b n : Nat} {f : Nat → Value} {t : TypeId} (h : ob w b = some (.cells (blk f n) t (0, 0))) (o k : Nat) (g : Nat → Value) (hk : o + k ≤ n) (hg : ∀ j, j < k → g j = f (o + j)) : w.rangeAt b o (blk g k).toList :=
  blk_range h (by rw [blk_len]; exact hk) (fun j hj => by
    rw [blk_len] at hj
    simp [blk, hj, hg j hj])
/-- a part of a block, written -/
theorem blk_storeF {w : World} {b n : Nat} {f g : Nat → Value} {t : TypeId} (h : ob w b = some (.cells (blk f n) t (0, 0))) (o k : Nat) (f' : Nat → Value) (hf : ∀ j, j < n → f' j = if o ≤ j ∧ j < o + k then g (j - o) else f j) : ob (w.setCells b o (blk g k).toList) b = some (.cells (blk f' n) t (0, 0)) := by
  rw [blk_storeR _ _ _ _ h]
  rw [blk_congr (g := f') (fun i hi => ?_)]
  unfold updR
  rw [blk_len, hf i hi]
  by_cases hh : o ≤ i ∧ i < o + k
  · rw [if_pos hh, if_pos hh]
    have : i - o < k := by omega
    simp [blk, this]
  · rw [if_neg hh, if_neg hh]
/-- an element of several cells, of an array by value -/
theorem run_index_agg {P : Program} {t e : TypeId} {n k : Nat} {i : TypeInfo} {d : TypeDesc} (ht : P.underlying t = some (.array n e)) (he : P.underlying e = some d) (hd : d.isRow = true) (hi : P.info? e = some i) (hs : i.size = k) (f : Nat → Value) (m : Nat) (hm : m = n * k) (q : Nat) (hq : q < n) (w : World) :
    (Instr.index t (.agg (blk f m)) (.int .i64 (q : Int))).run P w = .ok (.agg (blk (fun j => f (q * k + j)) k)) w := by
  have hagg : (isAgg e).run P w = .ok true w := by
    unfold isAgg
    rw [Sem.run_bind, run_underlying he w]
    cases d <;> simp_all
  have hle : q * k + k ≤ m := by
    rw [hm, ← Nat.succ_mul]; exact Nat.mul_le_mul_right k hq
  have hq0 : (0 : Int) ≤ (q : Int) ∧ (q : Int) < (n : Int) := by omega
  have hex : (blk f m).extract (q * k) (q * k + k) = blk (fun j => f (q * k + j)) k := by
    apply Array.ext
    · simp [blk]; omega
    · intro j h1 h2
      have hj : j < k := by simpa [blk] using h2
      simp [blk]
  simp [Instr.index, asIntOf, run_underlying ht, part, hagg, sizeOf, typeInfo, hi, hs, hq0, hq, hex]
theorem run_index_int {P : Program} {t e : TypeId} {n : Nat} {k : IntKind} {i : TypeInfo} (ht : P.underlying t = some (.array n e)) (he : P.underlying e = some (.int k)) (hi : P.info? e = some i) (hs : i.size = 1) (f : Nat → Int) (q : Nat) (hq : q < n) (w : World) :
    (Instr.index t (.agg (blk (fun j => .int k (f j)) n)) (.int .i64 (q : Int))).run P w = .ok (.int k (f q)) w := by
  have hq0 : (0 : Int) ≤ (q : Int) ∧ (q : Int) < (n : Int) := by omega
  have hp := part_int (P := P) he hi hs f n q hq w
  simp only [Nat.mul_one] at hp
  simp [Instr.index, asIntOf, run_underlying ht, sizeOf, typeInfo, hi, hs, hq0, hq, hp]
/-- an index, by its equation, in a walk -/
theorem wpList_index_eq {P : Program} {w : World} {ops : Array Oper} {rest : List Oper} {o : Oper} {a : Act} {Q : Exit → Act → World → Prop} (hgd : o.guard = none) (t : TypeId) (x i : Operand)
    (hop : o.op = .index t x i) {xv iv v : Value} (hx : a.eval x = xv) (hi : a.eval i = iv) (hrun : (Instr.index t xv iv).run P w = .ok v w) (h : wpList P ops Q rest (a.put o.dst v) w) : wpList P ops Q (o :: rest) a w := by
  refine wpList_plain hgd fun K hK => ?_
  unfold Oper.wp
  simp [execOp, hop, hx, hi, hrun, Result.andThen]
  exact hK _ _ h
/-- the walk stands at this load, at this store -/
theorem at_load (t : TypeId) (p : Tmp) {P : Program} {ops : Array Oper} {Q : Exit → Act → World → Prop} {rest : List Oper} {a : Act} {w : World} {d : Option Tmp} {ty : TypeId} {ps : String} {af : Array Edge} {g : Option (Nat × Bool)}
    (h : wpList P ops Q ({ dst := d, op := .load t (.tmp p), type := ty, pos := ps, after := af, guard := g } :: rest) a w) : wpList P ops Q ({ dst := d, op := .load t (.tmp p), type := ty, pos := ps, after := af, guard := g } :: rest) a w := h
theorem at_store (t : TypeId) (p v : Tmp) {P : Program} {ops : Array Oper} {Q : Exit → Act → World → Prop} {rest : List Oper} {a : Act} {w : World} {d : Option Tmp} {ty : TypeId} {ps : String} {af : Array Edge} {g : Option (Nat × Bool)}
    (h : wpList P ops Q ({ dst := d, op := .store t (.tmp p) (.tmp v), type := ty, pos := ps, after := af, guard := g } :: rest) a w) : wpList P ops Q ({ dst := d, op := .store t (.tmp p) (.tmp v), type := ty, pos := ps, after := af, guard := g } :: rest) a w := h
/-- a slice held against nil -/
theorem eqnil_in {P : Program} {t e : TypeId} (ht : P.underlying t = some (.slice e)) (d : Nat) (a : Option Addr) (n c : Nat) (w : World) : (Op.equalIn (d + 1) t (.slice a n c) (.slice none 0 0)).run P w = .ok a.isNone w := by
  have h := run_underlying (P := P) ht w
  cases a <;> simp [Op.equalIn, h]
theorem eqnil_run {P : Program} {t e : TypeId} (ht : P.underlying t = some (.slice e)) (a : Option Addr) (n c : Nat) (w : World) : (binOp .eql t (.slice a n c) (.slice none 0 0)).run P w = .ok (.bool a.isNone) w := by
  have h3 : (Op.equal t (.slice a n c) (.slice none 0 0)).run P w = .ok a.isNone w := eqnil_in ht 9999 a n c w
  simp [binOp, h3]
theorem nenil_run {P : Program} {t e : TypeId} (ht : P.underlying t = some (.slice e)) (a : Option Addr) (n c : Nat) (w : World) : (binOp .neq t (.slice a n c) (.slice none 0 0)).run P w = .ok (.bool !a.isNone) w := by
  have h3 : (Op.equal t (.slice a n c) (.slice none 0 0)).run P w = .ok a.isNone w := eqnil_in ht 9999 a n c w
  simp [binOp, h3]
end Go.Proofs.Ytehmjjfgefopdaa
