/- Lemmas on maps with whole-number keys, as lists of keys and values. -/
import Derived.Test.YtehmjjfgefopdaaLibS
namespace Go.Proofs.Ytehmjjfgefopdaa
open Go.RowKit

/-- the map in block m holds these keys and values -/
def MapL {α : Type} (w : World) (m : Nat) (q : IntKind) (val : α → Value) (l : List (Int × α)) : Prop :=
  ∃ es c, ob w m = some (.map es c) ∧ es.toList.map (fun e => (e.key, e.val)) = l.map (fun p => (Value.int q p.1, val p.2)) ∧ (l.map (·.1)).Nodup

variable {α : Type} {w : World} {m : Nat} {q : IntKind} {val : α → Value} {l : List (Int × α)}

theorem MapL.keep {S : List Nat} {w' : World} (h : MapL w m q val l) (hk : Keep S w w') (hm : m ∉ S) : MapL w' m q val l := by
  obtain ⟨es, c, h1, h2⟩ := h
  exact ⟨es, c, hk.kp h1 hm, h2⟩
theorem MapL.lt (h : MapL w m q val l) : m < w.heap.size := by
  obtain ⟨es, c, h1, _⟩ := h
  exact ob_lt h1
theorem MapL.new (h : ob w m = some (.map #[] 0)) : MapL w m q val [] := ⟨#[], 0, h, rfl, by simp⟩

theorem keys_all : ∀ (es : List MapEntry) (l : List (Int × α)), es.map (fun e => (e.key, e.val)) = l.map (fun p => (Value.int q p.1, val p.2)) → es.all (keyI q) = true
  | [], _, _ => rfl
  | e :: es, [], h => by simp at h
  | e :: es, p :: l, h => by
    simp only [List.map_cons, List.cons.injEq, Prod.mk.injEq] at h
    simp only [List.all_cons, Bool.and_eq_true]
    refine ⟨?_, keys_all es l h.2⟩
    simp [keyI, h.1.1]
theorem MapL.isMap (h : MapL w m q val l) : isMapI q (ob w m) = true := by
  obtain ⟨es, c, h1, h2, _⟩ := h
  rw [h1]
  exact keys_all _ _ h2

theorem find_list (x : Int) : ∀ (es : List MapEntry) (l : List (Int × α)) (i : Nat), es.map (fun e => (e.key, e.val)) = l.map (fun p => (Value.int q p.1, val p.2)) →
    (findI x es i).map (·.2) = (l.lookup x).map val
  | [], [], _, _ => rfl
  | [], _ :: _, _, h => by simp at h
  | e :: es, [], _, h => by simp at h
  | e :: es, p :: l, i, h => by
    simp only [List.map_cons, List.cons.injEq, Prod.mk.injEq] at h
    obtain ⟨k, v, b⟩ := e
    obtain ⟨p1, p2⟩ := p
    obtain ⟨⟨h1, h2⟩, h3⟩ := h
    simp only at h1 h2
    subst h1; subst h2
    rw [findI_cons, List.lookup_cons]
    by_cases hx : x = p1
    · simp [hx]
    · have : (x == p1) = false := by simpa using hx
      simp [hx, this, find_list x es l (i + 1) h3]
/-- the place of a key -/
theorem find_place (x : Int) : ∀ (es : List MapEntry) (l : List (Int × α)) (i j : Nat) (v : Value), es.map (fun e => (e.key, e.val)) = l.map (fun p => (Value.int q p.1, val p.2)) → findI x es i = some (j, v) →
    i ≤ j ∧ ∃ a, l[j - i]? = some (x, a) ∧ v = val a
  | [], _, _, _, _, _, h => by simp [findI_nil] at h
  | e :: es, [], _, _, _, h, _ => by simp at h
  | e :: es, p :: l, i, j, v, h, hf => by
    simp only [List.map_cons, List.cons.injEq, Prod.mk.injEq] at h
    obtain ⟨k, u, b⟩ := e
    obtain ⟨p1, p2⟩ := p
    obtain ⟨⟨h1, h2⟩, h3⟩ := h
    simp only at h1 h2
    subst h1; subst h2
    rw [findI_cons] at hf
    by_cases hx : x = p1
    · subst hx
      simp at hf
      obtain ⟨rfl, rfl⟩ := hf
      exact ⟨Nat.le_refl _, p2, by simp, rfl⟩
    · rw [if_neg hx] at hf
      obtain ⟨g1, a, g2, g3⟩ := find_place x es l (i + 1) j v h3 hf
      refine ⟨by omega, a, ?_, g3⟩
      rw [show j - i = (j - (i + 1)) + 1 by omega]
      simpa using g2

/-- what a look-up answers -/
def lookL (val : α → Value) (z : Value) : Option α → Value
  | some a => .tuple #[val a, .bool true]
  | none => .tuple #[z, .bool false]
theorem MapL.look {P : Program} {t kt et : TypeId} (h : MapL w m q val l) (ht : P.underlying t = some (.map kt et)) (hk : P.underlying kt = some (.int q)) {z : Value} (hz : ∀ w, (zeroValue et).run P w = .ok z w) (x : Int) :
    (Instr.lookup t (.map (some m)) (.int q x) true).run P w = .ok (lookL val z (l.lookup x)) w := by
  rw [run_lookup_ob ht hk hz x true w m h.isMap]
  obtain ⟨es, c, h1, h2, _⟩ := h
  have := find_list (q := q) (val := val) x es.toList l 0 h2
  rw [h1, obMap_map]
  cases hf : findI x es.toList 0 with
  | none => rw [hf] at this; cases hl : l.lookup x <;> simp_all [lookRes, lookL]
  | some y => rw [hf] at this; cases hl : l.lookup x <;> simp_all [lookRes, lookL]
theorem MapL.look1 {P : Program} {t kt et : TypeId} (h : MapL w m q val l) (ht : P.underlying t = some (.map kt et)) (hk : P.underlying kt = some (.int q)) {z : Value} (hz : ∀ w, (zeroValue et).run P w = .ok z w) (x : Int) :
    (Instr.lookup t (.map (some m)) (.int q x) false).run P w = .ok (((l.lookup x).map val).getD z) w := by
  rw [run_lookup_ob ht hk hz x false w m h.isMap]
  obtain ⟨es, c, h1, h2, _⟩ := h
  have := find_list (q := q) (val := val) x es.toList l 0 h2
  rw [h1, obMap_map]
  cases hf : findI x es.toList 0 with
  | none => rw [hf] at this; cases hl : l.lookup x <;> simp_all [lookRes]
  | some y => rw [hf] at this; cases hl : l.lookup x <;> simp_all [lookRes]

theorem MapL.len {P : Program} {t kt et : TypeId} (h : MapL w m q val l) (ht : P.underlying t = some (.map kt et)) (hk : P.underlying kt = some (.int q)) (ty : TypeId) :
    (Builtin.len_ #[t] ty #[.map (some m)]).run P w = .ok (goInt l.length) w := by
  rw [run_len_ob ht ty w m h.isMap]
  obtain ⟨es, c, h1, h2, _⟩ := h
  rw [h1, obMap_map]
  have := congrArg List.length h2
  simp only [List.length_map, Array.length_toList] at this
  rw [this]

theorem ob_setBlock_same {o o' : Obj} (h : ob w m = some o') : ob (ChangeMaps.setBlock w m o) m = some o := by
  rw [ob_setBlock, if_pos rfl, h]; rfl

theorem lookup_none_mem {x : Int} : ∀ {l : List (Int × α)}, l.lookup x = none → x ∉ l.map (·.1)
  | [], _ => by simp
  | (k, a) :: l, h => by
    rw [List.lookup_cons] at h
    by_cases hx : x = k
    · simp [hx] at h
    · have : (x == k) = false := by simpa using hx
      simp only [this] at h
      simp only [List.map_cons, List.mem_cons, not_or]
      exact ⟨hx, lookup_none_mem h⟩

theorem MapL.put_new {P : Program} {t kt et : TypeId} (h : MapL w m q val l) (ht : P.underlying t = some (.map kt et)) (hk : P.underlying kt = some (.int q)) (x : Int) (a : α) (hn : l.lookup x = none) :
    ∃ w', (Instr.mapUpdate t (.map (some m)) (.int q x) (val a)).run P w = .ok () w' ∧ MapL w' m q val (l ++ [(x, a)]) ∧ Keep [m] w w' ∧ w'.heap.size = w.heap.size := by
  have hrun := run_mapUpdate_ob ht hk x (val a) w m h.isMap
  obtain ⟨es, c, h1, h2, h3⟩ := h
  have hf := find_list (q := q) (val := val) x es.toList l 0 h2
  rw [hn] at hf
  have hf' : findI x es.toList 0 = none := by simpa using hf
  rw [h1, obMap_map, obClock_map, mapPut, hf'] at hrun
  refine ⟨_, hrun, ⟨_, _, ob_setBlock_same h1, ?_, ?_⟩, (Keep.refl _ _).setBlock (.inl (by simp)) _, size_setBlock _ _ _⟩
  · simp [h2]
  · rw [List.map_append, List.nodup_append]
    refine ⟨h3, by simp, fun y hy z hz => ?_⟩
    simp at hz
    subst hz
    intro e
    subst e
    exact lookup_none_mem hn hy

theorem lookup_some_get {x : Int} {a : α} : ∀ {l : List (Int × α)}, l.lookup x = some a → (x, a) ∈ l
  | [], h => by simp at h
  | (k, b) :: l, h => by
    rw [List.lookup_cons] at h
    by_cases hx : x = k
    · simp [hx] at h
      simp [hx, h]
    · have : (x == k) = false := by simpa using hx
      simp only [this] at h
      exact List.mem_cons_of_mem _ (lookup_some_get h)
theorem lookup_of_mem {x : Int} {a : α} : ∀ {l : List (Int × α)}, (l.map (·.1)).Nodup → (x, a) ∈ l → l.lookup x = some a
  | [], _, h => by simp at h
  | (k, b) :: l, hn, h => by
    simp only [List.map_cons, List.nodup_cons] at hn
    rw [List.lookup_cons]
    rcases List.mem_cons.1 h with e | h
    · cases e; simp
    · have : (x == k) = false := by
        simp only [beq_eq_false_iff_ne]
        exact fun e => hn.1 (List.mem_map.2 ⟨_, h, e⟩)
      simp only [this]
      exact lookup_of_mem hn.2 h

theorem erase_filter {x : Int} {a : α} : ∀ {l : List (Int × α)} {j : Nat}, (l.map (·.1)).Nodup → l[j]? = some (x, a) → l.eraseIdx j = l.filter (fun p => p.1 != x)
  | [], _, _, h => by simp at h
  | (k, b) :: l, 0, hn, h => by
    simp only [List.getElem?_cons_zero, Option.some.injEq, Prod.mk.injEq] at h
    obtain ⟨rfl, rfl⟩ := h
    simp only [List.map_cons, List.nodup_cons] at hn
    simp only [List.eraseIdx_cons_zero, List.filter_cons, bne_self_eq_false]
    symm
    rw [if_neg (by simp), List.filter_eq_self]
    intro p hp
    simp only [bne_iff_ne]
    exact fun e => hn.1 (List.mem_map.2 ⟨_, hp, e⟩)
  | (k, b) :: l, j + 1, hn, h => by
    simp only [List.map_cons, List.nodup_cons] at hn
    have h' : l[j]? = some (x, a) := by simpa using h
    have hk : (k != x) = true := by
      simp only [bne_iff_ne]
      exact fun e => hn.1 (List.mem_map.2 ⟨_, List.mem_of_getElem? h', e.symm⟩)
    simp only [List.eraseIdx_cons_succ, List.filter_cons, hk, if_true]
    rw [erase_filter hn.2 h']

theorem map_eraseIdx {β γ : Type} (f : β → γ) : ∀ (l : List β) (j : Nat), (l.eraseIdx j).map f = (l.map f).eraseIdx j
  | [], _ => by simp
  | _ :: _, 0 => rfl
  | a :: l, j + 1 => by simp [map_eraseIdx f l j]

/-- the key is taken out -/
theorem MapL.cut {P : Program} {t kt et : TypeId} (h : MapL w m q val l) (ht : P.underlying t = some (.map kt et)) (hk : P.underlying kt = some (.int q)) (kt' ty : TypeId) (x : Int) :
    ∃ w', (Builtin.delete_ #[t, kt'] ty #[.map (some m), .int q x]).run P w = .ok (.tuple #[]) w' ∧ MapL w' m q val (l.filter fun p => p.1 != x) ∧ Keep [m] w w' ∧ w'.heap.size = w.heap.size := by
  have hrun := run_delete_ob ht hk kt' ty x w m h.isMap
  obtain ⟨es, c, h1, h2, h3⟩ := h
  have hnd : ((l.filter fun p => p.1 != x).map (·.1)).Nodup := h3.sublist (List.Sublist.map _ List.filter_sublist)
  rw [h1, obMap_map, obClock_map, mapCut] at hrun
  cases hf : findI x es.toList 0 with
  | none =>
    rw [hf] at hrun
    refine ⟨_, hrun, ⟨_, _, ob_setBlock_same h1, ?_, hnd⟩, (Keep.refl _ _).setBlock (.inl (by simp)) _, size_setBlock _ _ _⟩
    have hl := find_list (q := q) (val := val) x es.toList l 0 h2
    rw [hf] at hl
    have hl' : l.lookup x = none := by simpa using hl.symm
    rw [h2, List.filter_eq_self.2]
    intro p hp
    simp only [bne_iff_ne]
    exact fun e => lookup_none_mem hl' (List.mem_map.2 ⟨_, hp, e⟩)
  | some y =>
    obtain ⟨j, v⟩ := y
    rw [hf] at hrun
    obtain ⟨_, a, g2, _⟩ := find_place (q := q) (val := val) x es.toList l 0 j v h2 hf
    refine ⟨_, hrun, ⟨_, _, ob_setBlock_same h1, ?_, hnd⟩, (Keep.refl _ _).setBlock (.inl (by simp)) _, size_setBlock _ _ _⟩
    rw [← erase_filter h3 (by simpa using g2), map_eraseIdx, ← h2]
    have : (es.eraseIdxIfInBounds j).toList = es.toList.eraseIdx j := by simp [Array.eraseIdxIfInBounds]; split <;> simp_all [List.eraseIdx_of_length_le]
    rw [this, map_eraseIdx]
end Go.Proofs.Ytehmjjfgefopdaa
