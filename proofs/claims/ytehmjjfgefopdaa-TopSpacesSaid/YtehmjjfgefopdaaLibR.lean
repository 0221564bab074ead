/- Lemmas on the reading of arguments: structs and arrays of whole numbers and bools, cell by cell; the row of a law out of its walk. -/
import Derived.Test.YtehmjjfgefopdaaLib
import Derived.Deep.Slices
import Derived.SizedLaws
import Derived.Carry
namespace Go.Proofs.Ytehmjjfgefopdaa
open Go.RowKit

/-- what a cell of plain data can be -/
inductive FK where
  | int (k : IntKind)
  | bool
  deriving DecidableEq

def FK.is : FK → Value → Prop
  | .int k, v => ∃ n, v = .int k n ∧ (Lit.int k n).wf = true
  | .bool, v => ∃ b, v = .bool b

/-- cells of those kinds -/
def CellsAre : List FK → List Value → Prop
  | [], cs => cs = []
  | k :: ks, cs => ∃ v rest, cs = v :: rest ∧ k.is v ∧ CellsAre ks rest

theorem CellsAre.append : ∀ {ks ls : List FK} {cs ds : List Value}, CellsAre ks cs → CellsAre ls ds → CellsAre (ks ++ ls) (cs ++ ds)
  | [], _, _, _, h, h2 => by cases h; exact h2
  | _ :: _, _, _, _, ⟨v, rest, e, hv, hr⟩, h2 => by subst e; exact ⟨v, rest ++ _, rfl, hv, hr.append h2⟩

theorem CellsAre.length : ∀ {ks : List FK} {cs : List Value}, CellsAre ks cs → cs.length = ks.length
  | [], _, h => by cases h; rfl
  | _ :: _, _, ⟨v, rest, e, _, hr⟩ => by subst e; simp [hr.length]

def flatFields (P : Program) (K : TypeId → Option (List FK)) (total : Nat) : List Field → Nat → Option (List FK)
  | [], off => if off = total then some [] else none
  | f :: fs, off => if f.offset = off then (K f.type).bind fun ks => if ks.length = P.cellsOf f.type then (flatFields P K total fs (off + P.cellsOf f.type)).map (ks ++ ·) else none else none

/-- the kinds of a type's cells, where it is plain data -/
def flatK (P : Program) : Nat → TypeId → Option (List FK)
  | 0, _ => none
  | d + 1, t =>
    match P.underlying t with
    | some (.int k) => some [.int k]
    | some .bool => some [.bool]
    | some (.array n e) => (flatK P d e).bind fun ks => if ks.length = P.cellsOf e ∧ P.cellsOf t = n * P.cellsOf e then some (List.replicate n ks).flatten else none
    | some (.struct fs) => flatFields P (flatK P d) (P.cellsOf t) fs.toList 0
    | _ => none

section
variable {H : Type} {enc : TypeId × Value → H} {P : Program} {w : World} {base : Nat} {spare : Nat → Bool} {held : Bool}

theorem take_drop_split (cs : List Value) (o n : Nat) : cs.drop o = (cs.drop o).take n ++ cs.drop (o + n) := by
  rw [← List.drop_drop]; exact (List.take_append_drop n (cs.drop o)).symm

theorem flat_fields (K : TypeId → Option (List FK)) (n total : Nat)
    (hK : ∀ t ks cs x, K t = some ks → DataW.trod enc P w base spare held n t cs = some x → CellsAre ks cs ∧ x.2 = []) :
    ∀ (fs : List Field) (xs : List (DataW H × List MemPlace)) (off : Nat) (ks : List FK) (cs : List Value), cs.length = total → flatFields P K total fs off = some ks → xs.length = fs.length →
      (∀ (i : Nat) (f : Field), fs[i]? = some f → DataW.trod enc P w base spare held n f.type ((cs.drop f.offset).take (P.cellsOf f.type)) = xs[i]?) →
      CellsAre ks (cs.drop off) ∧ xs.flatMap (·.2) = []
  | [], xs, off, ks, cs, hl, hf, hx, _ => by
    simp only [flatFields] at hf
    split at hf
    · rename_i he
      cases hf
      cases xs with
      | nil => exact ⟨by simp [CellsAre, List.drop_eq_nil_iff]; omega, rfl⟩
      | cons => simp at hx
    · cases hf
  | f :: fs, xs, off, ks, cs, hl, hf, hx, hi => by
    simp only [flatFields] at hf
    split at hf
    · rename_i ho
      rw [Option.bind_eq_some_iff] at hf
      obtain ⟨k1, h1, hf⟩ := hf
      split at hf
      · rename_i hlen
        rw [Option.map_eq_some_iff] at hf
        obtain ⟨k2, h2, rfl⟩ := hf
        cases xs with
        | nil => simp at hx
        | cons x xs =>
          have h0 := hi 0 f rfl
          simp only [List.getElem?_cons_zero] at h0
          obtain ⟨c1, e1⟩ := hK _ _ _ _ h1 h0
          obtain ⟨c2, e2⟩ := flat_fields K n total hK fs xs (off + P.cellsOf f.type) k2 cs hl h2 (by simpa using hx) (fun i g hg => by simpa using hi (i + 1) g (by simpa using hg))
          refine ⟨?_, by simp [e1, e2]⟩
          rw [take_drop_split cs off (P.cellsOf f.type)]
          rw [ho] at c1
          exact c1.append c2
      · cases hf
    · cases hf

theorem flat_items (e : TypeId) (ks : List FK) (n m : Nat) (xs : List (DataW H × List MemPlace)) (cs : List Value)
    (hK : ∀ cs x, DataW.trod enc P w base spare held m e cs = some x → CellsAre ks cs ∧ x.2 = []) (hxl : xs.length = n)
    (hi : ∀ i, i < n → DataW.trod enc P w base spare held m e ((cs.drop (i * P.cellsOf e)).take (P.cellsOf e)) = xs[i]?) (hl : cs.length = n * P.cellsOf e) :
    ∀ (k j : Nat), j + k = n → CellsAre (List.replicate k ks).flatten (cs.drop (j * P.cellsOf e)) ∧ ∀ i, j ≤ i → ∀ y, xs[i]? = some y → y.2 = []
  | 0, j, hj => by
    have : j = n := by omega
    subst this
    refine ⟨by simp [CellsAre, List.drop_eq_nil_iff, hl], fun i hji y hy => ?_⟩
    have := List.getElem?_eq_none (l := xs) (i := i) (by omega)
    rw [this] at hy; cases hy
  | k + 1, j, hj => by
    obtain ⟨c2, e2⟩ := flat_items e ks n m xs cs hK hxl hi hl k (j + 1) (by omega)
    have hjn : j < n := by omega
    have h0 := hi j hjn
    rw [List.getElem?_eq_getElem (by omega)] at h0
    obtain ⟨c1, e1⟩ := hK _ _ h0
    constructor
    · rw [List.replicate_succ, List.flatten_cons, take_drop_split cs (j * P.cellsOf e) (P.cellsOf e), show j * P.cellsOf e + P.cellsOf e = (j + 1) * P.cellsOf e by rw [Nat.add_mul]; omega]
      exact c1.append c2
    · intro i hji y hy
      by_cases he : i = j
      · subst he
        rw [List.getElem?_eq_getElem (by omega)] at hy
        cases hy; exact e1
      · exact e2 i (by omega) y hy

theorem flat_cells : ∀ (d : Nat) (t : TypeId) (ks : List FK), flatK P d t = some ks → ∀ (fuel : Nat) (cs : List Value) (x : DataW H × List MemPlace), DataW.trod enc P w base spare held fuel t cs = some x → CellsAre ks cs ∧ x.2 = []
  | 0, _, _, h => by simp [flatK] at h
  | d + 1, t, ks, h => by
    intro fuel cs x hx
    unfold flatK at h
    cases hu : P.underlying t with
    | none => simp [hu] at h
    | some kd =>
      rw [hu] at h
      cases kd <;> simp only [reduceCtorEq] at h
      case bool =>
        cases h
        obtain ⟨b, rfl, rfl⟩ := DataW.trod_bool hu hx
        exact ⟨⟨_, _, rfl, ⟨b, rfl⟩, rfl⟩, rfl⟩
      case int k =>
        cases h
        obtain ⟨n, rfl, rfl, wf⟩ := DataW.trod_int hu hx
        exact ⟨⟨_, _, rfl, ⟨n, rfl, wf⟩, rfl⟩, rfl⟩
      case array n e =>
        rw [Option.bind_eq_some_iff] at h
        obtain ⟨k1, h1, h⟩ := h
        split at h
        · rename_i hc
          cases h
          obtain ⟨xs, m, rfl, rfl, hl, hxl, hi⟩ := DataW.trod_array hu hx
          have := flat_items (enc := enc) (w := w) (base := base) (spare := spare) (held := held) e k1 n m xs cs (fun cs x hx => flat_cells d e k1 h1 m cs x hx) hxl hi (by omega) n 0 (by omega)
          refine ⟨by simpa using this.1, ?_⟩
          rw [List.flatMap_eq_nil_iff]
          intro y hy
          obtain ⟨i, hi2⟩ := List.mem_iff_getElem?.1 hy
          exact this.2 i (Nat.zero_le _) y hi2
        · cases h
      case struct fs =>
        obtain ⟨xs, n, rfl, rfl, hl, hxl, hi⟩ := DataW.trod_struct hu hx
        have := flat_fields (enc := enc) (w := w) (base := base) (spare := spare) (held := held) (flatK P d) n (P.cellsOf t) (fun t ks cs x h1 h2 => flat_cells d t ks h1 n cs x h2) fs.toList xs 0 ks cs hl h (by simpa using hxl) (fun i f hf => hi i f (by simpa using hf))
        exact ⟨by simpa using this.1, this.2⟩

/-- an argument of plain data, by value: its cells -/
theorem open_flat {r : Reach} {b0 : Nat} {t : TypeId} {v : Value} {x : DataW H} {p : List MemPlace} {d : Nat} {ks : List FK} (hk : flatK P d t = some ks)
    (hs : (match P.underlying t with | some (.struct _) | some (.array _ _) => true | _ => false) = true)
    (hv : Value.okWide P w r b0 t v) (h : DataW.Trod enc P w base spare held t v x p) : ∃ cs : List Value, v = .agg cs.toArray ∧ CellsAre ks cs ∧ p = [] := by
  obtain ⟨fuel, hf⟩ := h
  obtain ⟨c, e⟩ := flat_cells d t ks hk fuel _ _ hf
  unfold Value.okWide at hv
  cases hu : P.underlying t with
  | none => simp [hu] at hs
  | some kd =>
    rw [hu] at hv hs
    cases kd <;> simp at hs
    all_goals
      obtain ⟨cs, rfl, _, _⟩ := hv
      exact ⟨cs.toList, by simp, by simpa [Value.cells] using c, e⟩
end

/-! ### the row of a law out of its walk -/
section
variable {H : Type} {enc : TypeId × Value → H} {P : Program} {W W' : World}

theorem TrodAll_below (hl : laidOutB P = true) (hb : Below W.heap.size W W') : ∀ (ts : List TypeId) (vs : List Value) (ds : List (DataW H)) (ps : List MemPlace), ts.all (fun t => P.readableRec t && decide (t < P.types.size)) = true →
    DataW.TrodAll enc P W 0 (fun _ => true) true ts vs ds ps → (∀ x ∈ ps, x.block < W.heap.size) → DataW.TrodAll enc P W' 0 (fun b => decide (b < W.heap.size)) true ts vs ds ps
  | [], [], [], _, _, h, _ => h
  | t :: ts, v :: vs, d :: ds, ps, hr, ⟨p, q, h1, h2, e⟩, hlt => by
    subst e
    simp only [List.all_cons, Bool.and_eq_true, decide_eq_true_eq] at hr
    exact ⟨p, q, Below.trod hl hr.1.1 hr.1.2 h1 hb (fun x hx => hlt x (List.mem_append_left _ hx)), TrodAll_below hl hb ts vs ds q hr.2 h2 (fun x hx => hlt x (List.mem_append_right _ hx)), rfl⟩
  | [], [], _ :: _, _, _, h, _ => h.elim
  | [], _ :: _, _, _, _, h, _ => h.elim
  | _ :: _, [], _, _, _, h, _ => h.elim
  | _ :: _, _ :: _, [], _, _, h, _ => h.elim

theorem trodAll_len {base : Nat} {spare : Nat → Bool} {held : Bool} : ∀ {ts : List TypeId} {vs : List Value} {ds : List (DataW H)} {ps : List MemPlace}, DataW.TrodAll enc P W base spare held ts vs ds ps → ds.length = ts.length
  | [], [], [], _, _ => rfl
  | _ :: _, _ :: _, _ :: _, _, ⟨_, _, _, h2, _⟩ => by simp [trodAll_len h2]
  | [], [], _ :: _, _, h => h.elim
  | [], _ :: _, _, _, h => h.elim
  | _ :: _, [], _, _, h => h.elim
  | _ :: _, _ :: _, [], _, h => h.elim

/-- what a law's row asks behind the call, where it answered true and nothing that was there has turned -/
theorem law_post {f : Func} {s : ChangeSpec} {args : Array Value} {ds : List (DataW H)} {p : List MemPlace} (hl : laidOutB P = true) (hb : Below W.heap.size W W')
    (hvars : s.vars = []) (hT : f.resultTypes = #[4]) (h4 : P.underlying 4 = some .bool) (hr : f.params.toList.all (fun t => P.readableRec t && decide (t < P.types.size)) = true)
    (hfn : s.fn H (ds ++ []) = { results := [.lit (.bool true)], args := ds })
    (hW : DataW.Whole enc P f.params.toList s.vars false W args.toList ds [] p) (hA : DataW.TrodAll enc P W 0 (fun _ => true) true f.params.toList args.toList ds p) (hlt : ∀ x ∈ p, x.block < W.heap.size) :
    s.post enc P f false true false false W args (.bool true) W' := by
  refine ⟨ds, [], p, [], p, [], hW, ?_, ?_, ?_, hb.frame _, fun h => by cases h⟩
  · rw [hfn, hT]
    exact ChangeShapes.trodAll_mk1 (shut_bool h4 true)
  · rw [hfn]
    exact TrodAll_below hl hb _ _ _ _ hr hA hlt
  · rw [hvars, hfn]; rfl
end

/-- of a wf number of a kind -/
theorem u64_bd {n : Int} (h : (Lit.int .u64 n).wf = true) : 0 ≤ n ∧ n ≤ 18446744073709551615 := by
  simp [Lit.wf, IntKind.min, IntKind.max, IntKind.signed, IntKind.bits] at h; omega
theorem i64_bd {n : Int} (h : (Lit.int .i64 n).wf = true) : -9223372036854775808 ≤ n ∧ n ≤ 9223372036854775807 := by
  simp [Lit.wf, IntKind.min, IntKind.max, IntKind.signed, IntKind.bits] at h; omega

end Go.Proofs.Ytehmjjfgefopdaa
