/- Lemmas on the reading of arguments that are slices, of plain data or of structs that hold slices of numbers. -/
import Derived.Test.YtehmjjfgefopdaaLibR
import Derived.Test.YtehmjjfgefopdaaLibS
import Derived.Deep.Slices
import Derived.Deep.MidRow
import Derived.ChangeSlices
namespace Go.Proofs.Ytehmjjfgefopdaa
open Go.RowKit Go.ChangeShapes Go.WideShapes

/-- what a cell of an argument can be -/
inductive GK where
  | int (k : IntKind)
  | bool
  | ints (k : IntKind)
  deriving DecidableEq

/-- a slice of whole numbers -/
def RdI (w : World) (k : IntKind) (v : Value) (xs : List Int) : Prop := Rd w v (xs.map (Value.int k)) ∧ ∀ x ∈ xs, (Lit.int k x).wf = true

def GK.is (w : World) : GK → Value → Prop
  | .int k, v => ∃ n, v = .int k n ∧ (Lit.int k n).wf = true
  | .bool, v => ∃ b, v = .bool b
  | .ints k, v => ∃ xs, RdI w k v xs

def GCells (w : World) : List GK → List Value → Prop
  | [], cs => cs = []
  | k :: ks, cs => ∃ v rest, cs = v :: rest ∧ k.is w v ∧ GCells w ks rest

theorem GCells.append {w : World} : ∀ {ks ls : List GK} {cs ds : List Value}, GCells w ks cs → GCells w ls ds → GCells w (ks ++ ls) (cs ++ ds)
  | [], _, _, _, h, h2 => by cases h; exact h2
  | _ :: _, _, _, _, ⟨v, rest, e, hv, hr⟩, h2 => by subst e; exact ⟨v, rest ++ _, rfl, hv, hr.append h2⟩
theorem GCells.length {w : World} : ∀ {ks : List GK} {cs : List Value}, GCells w ks cs → cs.length = ks.length
  | [], _, h => by cases h; rfl
  | _ :: _, _, ⟨v, rest, e, _, hr⟩ => by subst e; simp [hr.length]

def gFields (P : Program) (K : TypeId → Option (List GK)) (total : Nat) : List Field → Nat → Option (List GK)
  | [], off => if off = total then some [] else none
  | f :: fs, off => if f.offset = off then (K f.type).bind fun ks => if ks.length = P.cellsOf f.type then (gFields P K total fs (off + P.cellsOf f.type)).map (ks ++ ·) else none else none

/-- the kinds of a type's cells -/
def gK (P : Program) : Nat → TypeId → Option (List GK)
  | 0, _ => none
  | d + 1, t =>
    match P.underlying t with
    | some (.int k) => some [.int k]
    | some .bool => some [.bool]
    | some (.array n e) => (gK P d e).bind fun ks => if ks.length = P.cellsOf e ∧ P.cellsOf t = n * P.cellsOf e then some (List.replicate n ks).flatten else none
    | some (.struct fs) => gFields P (gK P d) (P.cellsOf t) fs.toList 0
    | some (.slice e) => match P.underlying e with
      | some (.int k) => if P.cellsOf e = 1 then some [.ints k] else none
      | _ => none
    | _ => none

section
variable {H : Type} {enc : TypeId × Value → H} {P : Program} {w : World} {base : Nat} {spare : Nat → Bool} {held : Bool}

theorem g_fields (K : TypeId → Option (List GK)) (n total : Nat)
    (hK : ∀ t ks cs x, K t = some ks → DataW.trod enc P w base spare held n t cs = some x → GCells w ks cs) :
    ∀ (fs : List Field) (xs : List (DataW H × List MemPlace)) (off : Nat) (ks : List GK) (cs : List Value), cs.length = total → gFields P K total fs off = some ks → xs.length = fs.length →
      (∀ (i : Nat) (f : Field), fs[i]? = some f → DataW.trod enc P w base spare held n f.type ((cs.drop f.offset).take (P.cellsOf f.type)) = xs[i]?) → GCells w ks (cs.drop off)
  | [], xs, off, ks, cs, hl, hf, hx, _ => by
    simp only [gFields] at hf
    split at hf
    · rename_i he
      cases hf
      simp [GCells, List.drop_eq_nil_iff]; omega
    · cases hf
  | f :: fs, xs, off, ks, cs, hl, hf, hx, hi => by
    simp only [gFields] at hf
    split at hf
    · rename_i ho
      rw [Option.bind_eq_some_iff] at hf
      obtain ⟨k1, h1, hf⟩ := hf
      split at hf
      · rename_i hlen
        rw [Option.map_eq_some_iff] at hf
        obtain ⟨k2, h2, rfl⟩ := hf
        cases xs with
        | nil => simp at hx
        | cons x xs =>
          have h0 := hi 0 f rfl
          simp only [List.getElem?_cons_zero] at h0
          have c1 := hK _ _ _ _ h1 h0
          have c2 := g_fields K n total hK fs xs (off + P.cellsOf f.type) k2 cs hl h2 (by simpa using hx) (fun i g hg => by simpa using hi (i + 1) g (by simpa using hg))
          rw [take_drop_split cs off (P.cellsOf f.type)]
          rw [ho] at c1
          exact c1.append c2
      · cases hf
    · cases hf

theorem g_items (e : TypeId) (ks : List GK) (n m : Nat) (xs : List (DataW H × List MemPlace)) (cs : List Value)
    (hK : ∀ cs x, DataW.trod enc P w base spare held m e cs = some x → GCells w ks cs) (hxl : xs.length = n)
    (hi : ∀ i, i < n → DataW.trod enc P w base spare held m e ((cs.drop (i * P.cellsOf e)).take (P.cellsOf e)) = xs[i]?) (hl : cs.length = n * P.cellsOf e) :
    ∀ (k j : Nat), j + k = n → GCells w (List.replicate k ks).flatten (cs.drop (j * P.cellsOf e))
  | 0, j, hj => by
    have : j = n := by omega
    subst this
    simp [GCells, List.drop_eq_nil_iff, hl]
  | k + 1, j, hj => by
    have c2 := g_items e ks n m xs cs hK hxl hi hl k (j + 1) (by omega)
    have hjn : j < n := by omega
    have h0 := hi j hjn
    rw [List.getElem?_eq_getElem (by omega)] at h0
    have c1 := hK _ _ h0
    rw [List.replicate_succ, List.flatten_cons, take_drop_split cs (j * P.cellsOf e) (P.cellsOf e), show j * P.cellsOf e + P.cellsOf e = (j + 1) * P.cellsOf e by rw [Nat.add_mul]; omega]
    exact c1.append c2

theorem rdI_of {t e : TypeId} {k : IntKind} {fuel : Nat} {cs : List Value} {x : DataW H × List MemPlace} (ht : P.underlying t = some (.slice e)) (he : P.underlying e = some (.int k)) (hc : P.cellsOf e = 1)
    (h : DataW.trod enc P w base spare held fuel t cs = some x) : ∃ v xs, cs = [v] ∧ RdI w k v xs := by
  rcases open_ints ht he hc h with ⟨rfl, _⟩ | ⟨a, len, cap, zs, rfl, _, h1, h2, h3, _, h4, h5⟩
  · exact ⟨_, [], rfl, Rd.nil w, by simp⟩
  · have hle : len ≤ zs.length := by rw [h3]; split <;> omega
    have hlen : ((zs.take len).map (Value.int k)).length = len := by simp; omega
    refine ⟨_, zs.take len, rfl, .inr ⟨a, cap, by rw [hlen], by omega, h2, fun i x hx => ?_⟩, fun x hx => h5 x (List.mem_of_mem_take hx)⟩
    simp only [List.getElem?_map, Option.map_eq_some_iff, List.getElem?_take] at hx
    obtain ⟨n, hn, rfl⟩ := hx
    split at hn
    · rename_i hi
      have := h4 i (by omega)
      rw [this, List.getD, hn]; rfl
    · cases hn

theorem g_cells : ∀ (d : Nat) (t : TypeId) (ks : List GK), gK P d t = some ks → ∀ (fuel : Nat) (cs : List Value) (x : DataW H × List MemPlace), DataW.trod enc P w base spare held fuel t cs = some x → GCells w ks cs
  | 0, _, _, h => by simp [gK] at h
  | d + 1, t, ks, h => by
    intro fuel cs x hx
    unfold gK at h
    cases hu : P.underlying t with
    | none => simp [hu] at h
    | some kd =>
      rw [hu] at h
      cases kd <;> simp only [reduceCtorEq] at h
      case bool =>
        cases h
        obtain ⟨b, rfl, rfl⟩ := DataW.trod_bool hu hx
        exact ⟨_, _, rfl, ⟨b, rfl⟩, rfl⟩
      case int k =>
        cases h
        obtain ⟨n, rfl, rfl, wf⟩ := DataW.trod_int hu hx
        exact ⟨_, _, rfl, ⟨n, rfl, wf⟩, rfl⟩
      case array n e =>
        rw [Option.bind_eq_some_iff] at h
        obtain ⟨k1, h1, h⟩ := h
        split at h
        · rename_i hc
          cases h
          obtain ⟨xs, m, rfl, rfl, hl, hxl, hi⟩ := DataW.trod_array hu hx
          have := g_items (enc := enc) (w := w) (base := base) (spare := spare) (held := held) e k1 n m xs cs (fun cs x hx => g_cells d e k1 h1 m cs x hx) hxl hi (by omega) n 0 (by omega)
          simpa using this
        · cases h
      case struct fs =>
        obtain ⟨xs, n, rfl, rfl, hl, hxl, hi⟩ := DataW.trod_struct hu hx
        have := g_fields (enc := enc) (w := w) (base := base) (spare := spare) (held := held) (gK P d) n (P.cellsOf t) (fun t ks cs x h1 h2 => g_cells d t ks h1 n cs x h2) fs.toList xs 0 ks cs hl h (by simpa using hxl) (fun i f hf => hi i f (by simpa using hf))
        simpa using this
      case slice e =>
        cases he : P.underlying e with
        | none => simp [he] at h
        | some ke =>
          rw [he] at h
          cases ke <;> simp only [reduceCtorEq] at h
          case int k =>
            split at h
            · rename_i hc
              cases h
              obtain ⟨v, xs, rfl, hr⟩ := rdI_of hu he hc hx
              exact ⟨_, _, rfl, ⟨xs, hr⟩, rfl⟩
            · cases h

/-- v is a slice whose elements take n cells each, and reads as xs -/
def RdA (w : World) (n : Nat) (v : Value) (xs : List (List Value)) : Prop :=
  (∃ a cap, v = .slice a xs.length cap ∧ xs.length ≤ cap ∧ cap ≤ maxLen) ∧
    (0 < xs.length → ∃ b off cap, v = .slice (some ⟨b, off, none⟩) xs.length cap ∧ b < w.heap.size ∧ ∀ i c, xs[i]? = some c → c.length = n ∧ w.rangeAt b (off + i * n) c)

theorem RdA.keep {S : List Nat} {w w' : World} {n : Nat} {v : Value} {xs : List (List Value)} (h : RdA w n v xs) (hk : Keep S w w') (hS : ∀ b, v.ownBlock = some b → b < w.heap.size → b ∉ S) : RdA w' n v xs := by
  refine ⟨h.1, fun h0 => ?_⟩
  obtain ⟨b, off, cap, rfl, hb, h3⟩ := h.2 h0
  refine ⟨b, off, cap, rfl, Nat.lt_of_lt_of_le hb hk.size, fun i c hc => ⟨(h3 i c hc).1, fun j x hj => ?_⟩⟩
  rw [cell_ob, hk.block b hb (hS b rfl hb), ← cell_ob]
  exact (h3 i c hc).2 j x hj

theorem spot_of_range {w : World} {a : Addr} {base n : Nat} {cs : List Value} (h : w.cells? base a n = some cs) (hn : 0 < n) : a.spot = none := by
  obtain ⟨_, hl, hc⟩ := World.cells?_some h
  have h0 := hc 0 hn
  rw [List.getElem?_eq_getElem (by omega)] at h0
  have h1 := World.cell?_spot h0
  have h2 : a.add 0 = a := by simp [Addr.add]
  rwa [h2] at h1

/-- an argument that is a slice of plain things -/
theorem open_rows {r : Reach} {b0 : Nat} {t e : TypeId} {v : Value} {x : DataW H} {p : List MemPlace} {d : Nat} {ks : List GK} (ht : P.underlying t = some (.slice e)) (hk : gK P d e = some ks) (hpos : 0 < P.cellsOf e)
    (hv : Value.okWide P w r b0 t v) (h : DataW.Trod enc P w base spare held t v x p) : ∃ xs, RdA w (P.cellsOf e) v xs ∧ ∀ c ∈ xs, GCells w ks c := by
  obtain ⟨a0, len0, cap0, rfl⟩ := okWide_slice ht hv
  obtain ⟨fuel, hf⟩ := h
  rcases Deep.open_slice ht hf with ⟨hcs, _⟩ | ⟨a, len, cap, m, n, D, Pl, hcs, _, h1, h2, h3, _, h4⟩
  · obtain ⟨rfl, rfl, rfl⟩ : a0 = none ∧ len0 = 0 ∧ cap0 = 0 := by simpa [Value.cells] using hcs
    exact ⟨[], ⟨⟨none, 0, rfl, Nat.le_refl _, Nat.zero_le _⟩, fun h => by simp at h⟩, by simp⟩
  · obtain ⟨rfl, rfl, rfl⟩ : a0 = some a ∧ len0 = len ∧ cap0 = cap := by simpa [Value.cells] using hcs
    have hle : len0 ≤ m := by rw [h3]; split <;> omega
    obtain ⟨C, hC⟩ := Deep.choose_lt (α := List Value) (p := fun i c => w.cells? base (a.add (i * P.cellsOf e)) (P.cellsOf e) = some c ∧ DataW.trod enc P w base spare held n e c = some (D i, Pl i)) h4
    refine ⟨(List.range len0).map C, ⟨⟨some a, cap0, by simp, by simpa using h1, h2⟩, fun h0 => ?_⟩, fun c hc => ?_⟩
    · obtain ⟨b, off, spot⟩ := a
      have hp0 : 0 < m := by simp at h0; omega
      have hs := spot_of_range (hC 0 hp0).1 hpos
      have hspot : spot = none := by simpa [Addr.add] using hs
      subst hspot
      have hb : b < w.heap.size := by
        have := World.cells?_block (hC 0 hp0).1 hpos
        simpa [Addr.add] using this
      refine ⟨b, off, cap0, by simp, hb, fun i c hc => ?_⟩
      simp only [List.getElem?_map, Option.map_eq_some_iff] at hc
      obtain ⟨i', hi', rfl⟩ := hc
      obtain ⟨hi2, rfl⟩ := List.getElem?_eq_some_iff.1 hi'
      simp at hi2
      obtain ⟨g1, g2, g3⟩ := World.cells?_some (hC i (by omega)).1
      simp only [List.getElem_range]
      refine ⟨g2, fun j x hj => ?_⟩
      have hjn : j < P.cellsOf e := by rw [← g2]; exact (List.getElem?_eq_some_iff.1 hj).1
      have := g3 j hjn
      rw [add_mk, add_mk] at this
      rw [this, hj]
    · simp only [List.mem_map, List.mem_range] at hc
      obtain ⟨i, hi, rfl⟩ := hc
      exact g_cells d e ks hk n _ _ (hC i (by omega)).2

theorem open_ints_arg {r : Reach} {b0 : Nat} {t e : TypeId} {k : IntKind} {v : Value} {x : DataW H} {p : List MemPlace} (ht : P.underlying t = some (.slice e)) (he : P.underlying e = some (.int k)) (hc : P.cellsOf e = 1)
    (hv : Value.okWide P w r b0 t v) (h : DataW.Trod enc P w base spare held t v x p) : ∃ xs, RdI w k v xs := by
  obtain ⟨a0, len0, cap0, rfl⟩ := okWide_slice ht hv
  obtain ⟨fuel, hf⟩ := h
  obtain ⟨v, xs, hcs, hr⟩ := rdI_of ht he hc hf
  obtain rfl : Value.slice a0 len0 cap0 = v := by simpa [Value.cells] using hcs
  exact ⟨xs, hr⟩
end
theorem RdA.len {w : World} {n : Nat} {v : Value} {xs : List (List Value)} (h : RdA w n v xs) : ∃ a cap, v = .slice a xs.length cap ∧ xs.length ≤ cap ∧ cap ≤ maxLen := h.1
theorem RdA.alloc {w : World} {n : Nat} {v : Value} {xs : List (List Value)} (h : RdA w n v xs) (o : Obj) : RdA (w.alloc o) n v xs := h.keep (S := []) ((Keep.refl _ _).alloc o) (by simp)
theorem RdA.drew {w : World} {n : Nat} {v : Value} {xs : List (List Value)} (h : RdA w n v xs) : RdA w.drew n v xs := h
theorem RdI.keep {S : List Nat} {w w' : World} {k : IntKind} {v : Value} {xs : List Int} (h : RdI w k v xs) (hk : Keep S w w') (hS : ∀ b, v.ownBlock = some b → b < w.heap.size → b ∉ S) : RdI w' k v xs :=
  ⟨h.1.keep hk (fun b hb h0 => hS b hb (h.1.block hb h0)), h.2⟩
theorem GK.keep {w w' : World} (hk : Keep [] w w') : ∀ {g : GK} {v : Value}, g.is w v → g.is w' v
  | .int _, _, h => h
  | .bool, _, h => h
  | .ints _, _, ⟨xs, h⟩ => ⟨xs, h.keep hk (by simp)⟩
theorem GCells.keep {w w' : World} (hk : Keep [] w w') : ∀ {ks : List GK} {cs : List Value}, GCells w ks cs → GCells w' ks cs
  | [], _, h => h
  | _ :: _, _, ⟨v, rest, e, hv, hr⟩ => ⟨v, rest, e, GK.keep hk hv, hr.keep hk⟩
end Go.Proofs.Ytehmjjfgefopdaa
