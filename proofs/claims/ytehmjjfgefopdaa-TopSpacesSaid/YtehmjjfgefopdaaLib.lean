/- Lemmas on blocks of memory, maps with whole-number keys, and worlds, used by the walks of this seat. -/
import Derived.WalkKit
import Derived.WalkSpells
import Derived.WalkLawsBesides
import Derived.BigQuiet
import Derived.Deep.QuietTactic
import Derived.Deep.RegionWith
import Derived.Deep.DeepFit
import Derived.ProofKit
import Derived.Lib.Hide
import Derived.ChangeAlike
import Derived.BigRegion
import Derived.OpenShut
namespace Go.Proofs.Ytehmjjfgefopdaa
open Go.RowKit

theorem ret_b {a b : Bool} (h : a = b) : Ending.returned (.bool a) = Ending.returned (.bool b) := by rw [h]
theorem ret_i {k : IntKind} {a b : Int} (h : a = b) : Ending.returned (.int k a) = Ending.returned (.int k b) := by rw [h]

/-! ### blocks -/
/-- what stands in block k -/
def ob (w : World) (k : Nat) : Option Obj := w.heap[k]?

theorem ob_alloc (w : World) (o : Obj) (k : Nat) : ob (w.alloc o) k = if k = w.heap.size then some o else ob w k := by
  show (w.heap.push o)[k]? = _
  rw [Array.getElem?_push]; rfl
theorem ob_drew (w : World) (k : Nat) : ob w.drew k = ob w k := rfl
theorem ob_drewN (w : World) (n k : Nat) : ob (w.drewN n) k = ob w k := rfl

/-- a block with one cell written -/
def objSet (i : Nat) (v : Value) : Obj → Obj
  | .cells c e f => .cells (c.setIfInBounds i v) e f
  | o => o
theorem objSet_cells (i : Nat) (v : Value) (c : Array Value) (e : TypeId) (f : Nat × Nat) : objSet i v (.cells c e f) = .cells (c.setIfInBounds i v) e f := rfl

theorem ob_setCell (w : World) (b i : Nat) (v : Value) (k : Nat) : ob (w.setCell ⟨b, i, none⟩ v) k = if k = b then (ob w k).map (objSet i v) else ob w k := by
  simp only [ob, World.setCell, Array.getElem?_modify]
  by_cases h : k = b
  · subst h
    simp only [if_true]
    cases w.heap[k]? with
    | none => rfl
    | some o => cases o <;> rfl
  · rw [if_neg h, if_neg (fun e => h e.symm)]

theorem ob_setBlock (w : World) (b : Nat) (o : Obj) (k : Nat) : ob (ChangeMaps.setBlock w b o) k = if k = b then (ob w k).map (fun _ => o) else ob w k := by
  simp only [ob, ChangeMaps.setBlock, Array.getElem?_setIfInBounds]
  by_cases h : k = b
  · subst h
    by_cases h2 : k < w.heap.size
    · simp [h2]
    · simp [h2]
  · rw [if_neg h, if_neg (fun e => h e.symm)]

theorem size_setBlock (w : World) (b : Nat) (o : Obj) : (ChangeMaps.setBlock w b o).heap.size = w.heap.size := by simp [ChangeMaps.setBlock]

def obCell : Option Obj → Nat → Option Value
  | some (.cells c _ _), i => c[i]?
  | _, _ => none
theorem obCell_cells (c : Array Value) (e : TypeId) (f : Nat × Nat) (i : Nat) : obCell (some (.cells c e f)) i = c[i]? := rfl
theorem cell_ob (w : World) (b i : Nat) : w.cell? ⟨b, i, none⟩ = obCell (ob w b) i := by
  simp only [World.cell?, obCell, ob]
  cases w.heap[b]? with
  | none => rfl
  | some o => cases o <;> rfl
theorem cell_of_ob {w : World} {b : Nat} {c : Array Value} {e : TypeId} {f : Nat × Nat} (h : ob w b = some (.cells c e f)) (i : Nat) : w.cell? ⟨b, i, none⟩ = c[i]? := by
  rw [cell_ob, h]; rfl

def obFrozen : Option Obj → Nat → Bool
  | some (.cells _ _ (lo, hi)), i => lo ≤ i && i < hi
  | _, _ => false
theorem frozen_ob (w : World) (b i : Nat) : w.frozen? ⟨b, i, none⟩ = obFrozen (ob w b) i := by
  simp only [World.frozen?, obFrozen, ob]
  cases w.heap[b]? with
  | none => rfl
  | some o => cases o <;> rfl
theorem free_of_ob {w : World} {b : Nat} {c : Array Value} {e : TypeId} (h : ob w b = some (.cells c e (0, 0))) (i : Nat) : w.frozen? ⟨b, i, none⟩ = false := by
  rw [frozen_ob, h]; simp [obFrozen]

theorem ob_lt {w : World} {b : Nat} {o : Obj} (h : ob w b = some o) : b < w.heap.size := by
  unfold ob at h
  rcases Nat.lt_or_ge b w.heap.size with h' | h'
  · exact h'
  · rw [Array.getElem?_eq_none h'] at h; cases h

theorem ob_below {B : Nat} {w w' : World} (h : Below B w w') {k : Nat} (hk : k < B) : ob w' k = ob w k := h.block k hk

/-! ### what a call may have changed: only the blocks of S, and new ones -/
structure Keep (S : List Nat) (w w' : World) : Prop where
  os : w'.os = w.os
  tape : w'.tape = w.tape
  output : w'.output = w.output
  size : w.heap.size ≤ w'.heap.size
  block : ∀ k, k < w.heap.size → k ∉ S → ob w' k = ob w k

theorem Keep.refl (S : List Nat) (w : World) : Keep S w w := ⟨rfl, rfl, rfl, Nat.le_refl _, fun _ _ _ => rfl⟩
theorem Keep.trans {S : List Nat} {a b c : World} (h : Keep S a b) (k : Keep S b c) : Keep S a c :=
  ⟨k.os.trans h.os, k.tape.trans h.tape, k.output.trans h.output, Nat.le_trans h.size k.size,
    fun i hi hs => (k.block i (Nat.lt_of_lt_of_le hi h.size) hs).trans (h.block i hi hs)⟩
theorem Keep.mono {S T : List Nat} {a b : World} (h : Keep S a b) (hs : ∀ k, k ∈ S → k ∈ T) : Keep T a b :=
  ⟨h.os, h.tape, h.output, h.size, fun i hi ht => h.block i hi fun m => ht (hs i m)⟩
theorem Keep.drew {S : List Nat} {a w : World} (h : Keep S a w) : Keep S a w.drew := ⟨h.os, h.tape, h.output, h.size, h.block⟩
theorem Keep.drewN {S : List Nat} {a w : World} (h : Keep S a w) (n : Nat) : Keep S a (w.drewN n) := ⟨h.os, h.tape, h.output, h.size, h.block⟩
theorem Keep.alloc {S : List Nat} {a w : World} (h : Keep S a w) (o : Obj) : Keep S a (w.alloc o) :=
  h.trans ⟨rfl, rfl, rfl, by simp, fun k hk _ => by rw [ob_alloc, if_neg (by omega)]⟩
/-- a store into one of S, or into a block that is new since a -/
theorem Keep.setCell {S : List Nat} {a w : World} (h : Keep S a w) {b : Nat} (hb : b ∈ S ∨ a.heap.size ≤ b) (i : Nat) (v : Value) : Keep S a (w.setCell ⟨b, i, none⟩ v) :=
  ⟨h.os, h.tape, h.output, by simpa using h.size, fun k hk hs => by
    rw [ob_setCell, if_neg (by rintro rfl; rcases hb with hb | hb; exact hs hb; omega)]; exact h.block k hk hs⟩
theorem Keep.setBlock {S : List Nat} {a w : World} (h : Keep S a w) {b : Nat} (hb : b ∈ S ∨ a.heap.size ≤ b) (o : Obj) : Keep S a (ChangeMaps.setBlock w b o) :=
  ⟨h.os, h.tape, h.output, by simpa [size_setBlock] using h.size, fun k hk hs => by
    rw [ob_setBlock, if_neg (by rintro rfl; rcases hb with hb | hb; exact hs hb; omega)]; exact h.block k hk hs⟩
theorem Keep.andThen {S T : List Nat} {a b c : World} (h : Keep S a b) (k : Keep T b c) (hT : ∀ x, x ∈ T → x ∈ S ∨ a.heap.size ≤ x) : Keep S a c :=
  ⟨k.os.trans h.os, k.tape.trans h.tape, k.output.trans h.output, Nat.le_trans h.size k.size,
    fun i hi hs => (k.block i (Nat.lt_of_lt_of_le hi h.size) (fun m => by rcases hT i m with h1 | h1; exact hs h1; omega)).trans (h.block i hi hs)⟩
theorem Keep.below {S : List Nat} {B : Nat} {a b w : World} (h : Below B w a) (k : Keep S a b) (hB : B ≤ a.heap.size) (hS : ∀ k, k ∈ S → B ≤ k) : Below B w b :=
  h.trans ⟨k.os, k.tape, k.output, k.size, fun i hi => k.block i (by omega) fun m => by have := hS i m; omega⟩
theorem Keep.toBelow {a b : World} (k : Keep [] a b) : Below a.heap.size a b := ⟨k.os, k.tape, k.output, k.size, fun i hi => k.block i hi (by simp)⟩
theorem Keep.ofBelow {a b : World} (k : Below a.heap.size a b) (S : List Nat) : Keep S a b := ⟨k.os, k.tape, k.output, k.size, fun i hi _ => k.block i hi⟩

/-! ### a known block, step by step -/
theorem al_new (w : World) (o : Obj) {k : Nat} (h : k = w.heap.size) : ob (w.alloc o) k = some o := by rw [ob_alloc, if_pos h]
theorem al {w : World} {k : Nat} {o : Obj} (h : ob w k = some o) {o' : Obj} : ob (w.alloc o') k = some o := by
  have := ob_lt h
  rw [ob_alloc, if_neg (by omega)]; exact h
theorem dr {w : World} {k : Nat} {o : Obj} (h : ob w k = some o) : ob w.drew k = some o := h
theorem st {w : World} {k b i : Nat} {v : Value} {o : Obj} (h : ob w k = some o) (hn : k ≠ b) : ob (w.setCell ⟨b, i, none⟩ v) k = some o := by
  rw [ob_setCell, if_neg hn]; exact h
theorem st_same {w : World} {b i : Nat} {v : Value} {c : Array Value} {e : TypeId} {f : Nat × Nat} (h : ob w b = some (.cells c e f)) : ob (w.setCell ⟨b, i, none⟩ v) b = some (.cells (c.setIfInBounds i v) e f) := by
  rw [ob_setCell, if_pos rfl, h]; rfl
theorem Keep.kp {S : List Nat} {w w' : World} (hk : Keep S w w') {k : Nat} {o : Obj} (h : ob w k = some o) (hn : k ∉ S) : ob w' k = some o :=
  (hk.block k (ob_lt h) hn).trans h

/-! ### maps with keys of an integer kind -/
theorem run_checkKey_int {P : Program} {kt : TypeId} {q : IntKind} (hk : P.underlying kt = some (.int q)) (e : Bool) (v : Value) (w : World) :
    (Instr.checkKey e 10000 kt v).run P w = .ok () w := by
  have h : ∀ n, (Instr.checkKey e (n+1) kt v).run P w = .ok () w := by
    intro n
    simp [Instr.checkKey, run_underlying hk]
  exact h 9999

/-- the place and the value of a key -/
def findI (x : Int) : List MapEntry → Nat → Option (Nat × Value)
  | [], _ => none
  | e :: es, i => match e.key with
    | .int _ y => if x = y then some (i, e.val) else findI x es (i + 1)
    | _ => findI x es (i + 1)
theorem findI_nil (x : Int) (i : Nat) : findI x [] i = none := rfl
theorem findI_cons (q : IntKind) (x y : Int) (v : Value) (b : Nat) (es : List MapEntry) (i : Nat) :
    findI x (⟨.int q y, v, b⟩ :: es) i = if x = y then some (i, v) else findI x es (i + 1) := rfl

def keyI (q : IntKind) (e : MapEntry) : Bool := match e.key with | .int k _ => k == q | _ => false
theorem keyI_mk (q k : IntKind) (y : Int) (v : Value) (b : Nat) : keyI q ⟨.int k y, v, b⟩ = (k == q) := rfl

theorem findNow_findI (q : IntKind) (x : Int) : ∀ (es : List MapEntry) (i : Nat), es.all (keyI q) = true → Instr.findNow (.int q) (.int q x) es i = some (findI x es i)
  | [], _, _ => rfl
  | e :: es, i, h => by
    obtain ⟨k, v, b⟩ := e
    simp only [List.all_cons, Bool.and_eq_true] at h
    obtain ⟨h1, h2⟩ := h
    have ih := findNow_findI q x es (i + 1) h2
    cases k <;> simp [keyI] at h1
    subst h1
    rename_i y
    by_cases h : x = y
    · simp [Instr.findNow, Instr.sameNow, findI, h]
    · have hb : (x == y) = false := by simpa using h
      simp only [Instr.findNow, Instr.sameNow, if_true, hb, findI, if_neg h, ih]

theorem run_findKey_int {P : Program} {kt : TypeId} {q : IntKind} (hk : P.underlying kt = some (.int q)) (x : Int) (es : List MapEntry) (h : es.all (keyI q) = true) (w : World) :
    (Instr.findKey kt (.int q x) es).run P w = .ok (findI x es 0) w := by
  simp [Instr.findKey, run_underlying hk, findNow_findI q x es 0 h]

def obMap : Option Obj → Array MapEntry
  | some (.map es _) => es
  | _ => #[]
def obClock : Option Obj → Nat
  | some (.map _ c) => c
  | _ => 0
/-- it is a map, and its keys are of that kind -/
def isMapI (q : IntKind) : Option Obj → Bool
  | some (.map es _) => es.toList.all (keyI q)
  | _ => false
theorem obMap_map (es : Array MapEntry) (c : Nat) : obMap (some (.map es c)) = es := rfl
theorem obClock_map (es : Array MapEntry) (c : Nat) : obClock (some (.map es c)) = c := rfl
theorem isMapI_map (q : IntKind) (es : Array MapEntry) (c : Nat) : isMapI q (some (.map es c)) = es.toList.all (keyI q) := rfl
theorem isMapI_out {q : IntKind} {w : World} {r : Nat} (h : isMapI q (ob w r) = true) : ∃ es c, w.heap[r]? = some (.map es c) ∧ obMap (ob w r) = es ∧ obClock (ob w r) = c ∧ es.toList.all (keyI q) = true := by
  unfold ob at *
  cases hw : w.heap[r]? with
  | none => rw [hw] at h; simp [isMapI] at h
  | some o =>
    rw [hw] at h
    cases o <;> simp [isMapI] at h
    refine ⟨_, _, rfl, rfl, rfl, ?_⟩
    simpa using h

theorem getObj_map {P : Program} {w : World} {r : Nat} {es : Array MapEntry} {c : Nat} (h : w.heap[r]? = some (.map es c)) : (getObj r).run P w = .ok (.map es c) w := by
  simp [getObj, Sem.run, h]
theorem setObj_map {P : Program} {w : World} {r : Nat} {es : Array MapEntry} {c : Nat} (o : Obj) (h : w.heap[r]? = some (.map es c)) : (setObj r o).run P w = .ok () (ChangeMaps.setBlock w r o) := by
  simp [setObj, Sem.run, h, ChangeMaps.setBlock]
theorem setBlock_alloc (w : World) (o o' : Obj) : ChangeMaps.setBlock (w.alloc o) w.heap.size o' = w.alloc o' := by
  have h : (w.heap.push o).setIfInBounds w.heap.size o' = w.heap.push o' := by
    apply Array.ext
    · simp
    · intro i h1 h2
      by_cases e : i = w.heap.size
      · subst e; simp
      · have h3 : i < w.heap.size := by simp at h2; omega
        rw [Array.getElem_setIfInBounds_ne (h := fun h => e h.symm) (by simpa using h2)]
        simp [Array.getElem_push, h3]
  simp only [ChangeMaps.setBlock, World.alloc]
  rw [h]

/-- what a look-up answers -/
def lookRes (ok : Bool) (z : Value) : Option (Nat × Value) → Value
  | some (_, v) => if ok then .tuple #[v, .bool true] else v
  | none => if ok then .tuple #[z, .bool false] else z
theorem lookRes_some (z v : Value) (i : Nat) : lookRes true z (some (i, v)) = .tuple #[v, .bool true] := rfl
theorem lookRes_none (z : Value) : lookRes true z none = .tuple #[z, .bool false] := rfl
theorem lookRes_some' (z v : Value) (i : Nat) : lookRes false z (some (i, v)) = v := rfl
theorem lookRes_none' (z : Value) : lookRes false z none = z := rfl

theorem run_lookup_ob {P : Program} {t kt et : TypeId} {q : IntKind} (ht : P.underlying t = some (.map kt et)) (hk : P.underlying kt = some (.int q)) {z : Value} (hz : ∀ w, (zeroValue et).run P w = .ok z w)
    (x : Int) (ok : Bool) (w : World) (r : Nat) (hb : isMapI q (ob w r) = true) :
    (Instr.lookup t (.map (some r)) (.int q x) ok).run P w = .ok (lookRes ok z (findI x (obMap (ob w r)).toList 0)) w := by
  obtain ⟨es, c, hw, he, _, ha⟩ := isMapI_out hb
  rw [he]
  have hf := run_findKey_int (P := P) hk x es.toList ha
  cases hr : findI x es.toList 0 with
  | none => rw [hr] at hf; cases ok <;> simp [Instr.lookup, run_underlying ht, getObj_map hw, run_checkKey_int hk, hf, hz, lookRes]
  | some y => rw [hr] at hf; cases ok <;> simp [Instr.lookup, run_underlying ht, getObj_map hw, run_checkKey_int hk, hf, lookRes]

/-- a map with a key put in -/
def mapPut (q : IntKind) (x : Int) (v : Value) (es : Array MapEntry) (c : Nat) : Obj :=
  match findI x es.toList 0 with
  | some (i, _) => .map (es.modify i fun e => { e with key := .int q x, val := v }) c
  | none => .map (es.push { key := .int q x, val := v, born := c }) (c + 1)

theorem findI_key {q : IntKind} {x : Int} : ∀ {es : List MapEntry} {i j : Nat} {v : Value}, es.all (keyI q) = true → findI x es i = some (j, v) → i ≤ j ∧ ∃ e, es[j - i]? = some e ∧ e.key = .int q x ∧ e.val = v
  | [], _, _, _, _, h => by simp [findI] at h
  | e :: es, i, j, v, ha, h => by
    obtain ⟨k, u, b⟩ := e
    simp only [List.all_cons, Bool.and_eq_true] at ha
    obtain ⟨h1, h2⟩ := ha
    cases k <;> simp [keyI] at h1
    subst h1
    rename_i y
    by_cases hx : x = y
    · subst hx
      simp [findI] at h
      obtain ⟨rfl, rfl⟩ := h
      exact ⟨Nat.le_refl _, _, by simp; rfl, rfl, rfl⟩
    · simp [findI, hx] at h
      obtain ⟨h3, e, h4, h5, h6⟩ := findI_key h2 h
      refine ⟨by omega, e, ?_, h5, h6⟩
      rw [show j - i = (j - (i + 1)) + 1 by omega]
      simpa using h4

theorem run_keyThatStays_int {P : Program} (q : IntKind) (x : Int) (w : World) : (Instr.keyThatStays (.int q x) (.int q x)).run P w = .ok (.int q x) w := by
  have h : Instr.sameBits 10000 (.int q x) (.int q x) = true := by cases q <;> simp [Instr.sameBits]
  simp [Instr.keyThatStays, h]

theorem run_mapUpdate_ob {P : Program} {t kt et : TypeId} {q : IntKind} (ht : P.underlying t = some (.map kt et)) (hk : P.underlying kt = some (.int q)) (x : Int) (v : Value) (w : World) (r : Nat) (hb : isMapI q (ob w r) = true) :
    (Instr.mapUpdate t (.map (some r)) (.int q x) v).run P w = .ok () (ChangeMaps.setBlock w r (mapPut q x v (obMap (ob w r)) (obClock (ob w r)))) := by
  obtain ⟨es, c, hw, he, hc, ha⟩ := isMapI_out hb
  rw [he, hc]
  have hf := run_findKey_int (P := P) hk x es.toList ha
  cases hr : findI x es.toList 0 with
  | none => rw [hr] at hf; simp [Instr.mapUpdate, run_underlying ht, getObj_map hw, run_checkKey_int hk, hf, setObj_map _ hw, mapPut, hr]
  | some y =>
    obtain ⟨i, u⟩ := y
    obtain ⟨_, e, h4, h5, _⟩ := findI_key (q := q) ha hr
    rw [hr] at hf
    have h6 : es[i]? = some e := by simpa using h4
    simp [Instr.mapUpdate, run_underlying ht, getObj_map hw, run_checkKey_int hk, hf, setObj_map _ hw, mapPut, hr, h6, h5, run_keyThatStays_int]

/-- a map without a key -/
def mapCut (x : Int) (es : Array MapEntry) (c : Nat) : Obj :=
  match findI x es.toList 0 with
  | some (i, _) => .map (es.eraseIdxIfInBounds i) c
  | none => .map es c

theorem run_delete_ob {P : Program} {t kt et : TypeId} {q : IntKind} (ht : P.underlying t = some (.map kt et)) (hk : P.underlying kt = some (.int q)) (kt' ty : TypeId) (x : Int) (w : World) (r : Nat) (hb : isMapI q (ob w r) = true) :
    (Builtin.delete_ #[t, kt'] ty #[.map (some r), .int q x]).run P w = .ok (.tuple #[]) (ChangeMaps.setBlock w r (mapCut x (obMap (ob w r)) (obClock (ob w r)))) := by
  obtain ⟨es, c, hw, he, hc, ha⟩ := isMapI_out hb
  rw [he, hc]
  have hf := run_findKey_int (P := P) hk x es.toList ha
  cases hr : findI x es.toList 0 with
  | none => rw [hr] at hf; simp [Builtin.delete_, run_underlying ht, getObj_map hw, run_checkKey_int hk, hf, setObj_map _ hw, mapCut, hr]
  | some y =>
    rw [hr] at hf
    simp [Builtin.delete_, run_underlying ht, getObj_map hw, run_checkKey_int hk, hf, setObj_map _ hw, mapCut, hr]

theorem run_len_ob {P : Program} {t kt et : TypeId} {q : IntKind} (ht : P.underlying t = some (.map kt et)) (ty : TypeId) (w : World) (r : Nat) (hb : isMapI q (ob w r) = true) :
    (Builtin.len_ #[t] ty #[.map (some r)]).run P w = .ok (goInt (obMap (ob w r)).size) w := by
  obtain ⟨es, c, hw, he, hc, ha⟩ := isMapI_out hb
  rw [he]
  simp [Builtin.len_, run_underlying ht, getObj_map hw]

/-! ### '==' on structs and arrays -/
theorem ite_okb (p : Prop) [Decidable p] (x : Bool) (w : World) : (if p then Result.ok (Value.bool x) w else Result.ok (Value.bool false) w) = Result.ok (Value.bool (decide p && x)) w := by
  by_cases h : p <;> simp [h]
theorem ite_okn (p : Prop) [Decidable p] (x : Bool) (w : World) : (if p then Result.ok (Value.bool x) w else Result.ok (Value.bool true) w) = Result.ok (Value.bool (!decide p || x)) w := by
  by_cases h : p <;> simp [h]

/-! ### results that lie in memory -/
theorem ret_row_tmp {P : Program} {fn : Func} {p u : Tmp} {ty : TypeId} (h : fn.results = #[.cell p ty, .tmp u]) {tmps : Array Value} {w : World} {g : Nat} {t : TypeId} {cs : Array Value} {fr : Nat × Nat} {d : TypeDesc}
    (hg : ob w g = some (.cells cs t fr)) (hp : tmps.getD p undef = .pointer (some ⟨g, 0, none⟩))
    (hu : P.underlying ty = some d) (hd : (match d with | .struct _ | .array _ _ => true | _ => false) = true) (hi : (P.info? ty).map (·.size) = some cs.size) :
    (results fn tmps).run P w = .ok (.tuple #[.agg cs, tmps.getD u undef]) w := by
  have hp' : tmps[p]?.getD undef = .pointer (some ⟨g, 0, none⟩) := by simpa using hp
  simp [results, h, hp', asAddr, run_loadVar_row w g t ty cs fr d hg hu hd hi]
theorem ret_row {P : Program} {fn : Func} {p : Tmp} {ty : TypeId} (h : fn.results = #[.cell p ty]) {tmps : Array Value} {w : World} {g : Nat} {t : TypeId} {cs : Array Value} {fr : Nat × Nat} {d : TypeDesc}
    (hg : ob w g = some (.cells cs t fr)) (hp : tmps.getD p undef = .pointer (some ⟨g, 0, none⟩))
    (hu : P.underlying ty = some d) (hd : (match d with | .struct _ | .array _ _ => true | _ => false) = true) (hi : (P.info? ty).map (·.size) = some cs.size) :
    (results fn tmps).run P w = .ok (.agg cs) w := by
  have hp' : tmps[p]?.getD undef = .pointer (some ⟨g, 0, none⟩) := by simpa using hp
  simp [results, h, hp', asAddr, run_loadVar_row w g t ty cs fr d hg hu hd hi]

end Go.Proofs.Ytehmjjfgefopdaa
