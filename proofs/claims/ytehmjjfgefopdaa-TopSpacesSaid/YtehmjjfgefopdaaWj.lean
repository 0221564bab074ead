import Derived.Test.YtehmjjfgefopdaaWi
namespace Go.Proofs.Ytehmjjfgefopdaa
open Go.RowKit
set_option linter.unusedSimpArgs false
set_option linter.unusedVariables false
attribute [local go_sem] ob_alloc ob_drew ob_drewN ob_setCell ob_setBlock objSet_cells obMap_map obClock_map isMapI_map keyI_mk findI_nil findI_cons lookRes_some lookRes_none lookRes_some' lookRes_none' setBlock_alloc mapPut

/-! ### the map of what is held -/
def kB (f : Nat) : Value := .agg #[vN f, vN 0]
set_option maxRecDepth 100000 in
theorem eq58 (x y : Nat) (w : World) : (Op.equal 58 (kB x) (kB y)).run Try.prog w = .ok (x == y) w := by
  have hb : (binOp .eql 58 (kB x) (kB y)).run Try.prog w = .ok (.bool (decide ((x:Int) = y))) w := by
    unfold kB vN
    go_simp
    simp [ite_okb]
  have he : (binOp .eql 58 (kB x) (kB y)) = (do let r ← Op.equal 58 (kB x) (kB y); pure (.bool r)) := by
    rfl
  rw [he, Sem.run_bind] at hb
  have hd : decide ((x : Int) = y) = (x == y) := by
    rw [Bool.eq_iff_iff]
    simp
    omega
  rw [hd] at hb
  cases hr : (Op.equal 58 (kB x) (kB y)).run Try.prog w with
  | ok r w' =>
    rw [hr] at hb
    simp at hb
    obtain ⟨h1, h2⟩ := hb
    rw [h1, h2]
  | halt => rw [hr] at hb; cases hb
def findL (x : Nat) : List Nat → Nat → Option (Nat × Value)
  | [], _ => none
  | y :: l, i => if x = y then some (i, .bool true) else findL x l (i + 1)
def KV (es : List MapEntry) (l : List Nat) : Prop := es.map (fun e => (e.key, e.val)) = l.map (fun f => (kB f, Value.bool true))
theorem run_asking (x : Nat) (w : World) : ∀ (es : List MapEntry) (l : List Nat) (i : Nat), KV es l → (Instr.findAsking 58 (kB x) es i).run Try.prog w = .ok (findL x l i) w
  | [], [], i, _ => by simp [Instr.findAsking, findL]
  | [], _ :: _, _, h => by simp [KV] at h
  | e :: es, [], _, h => by simp [KV] at h
  | e :: es, y :: l, i, h => by
    simp only [KV, List.map_cons, List.cons.injEq, Prod.mk.injEq] at h
    obtain ⟨⟨h1, h2⟩, h3⟩ := h
    have ih := run_asking x w es l (i + 1) h3
    have he := eq58 x y w
    simp only [Instr.findAsking, Sem.run_bind, h1, he, Result.andThen_ok, findL]
    by_cases hx : x = y
    · simp [hx, h2]
    · have h2 : (x == y) = false := by simpa using hx
      simp only [h2, if_neg hx]
      simpa using ih
theorem find58 (x : Nat) (w : World) (es : List MapEntry) (l : List Nat) (h : KV es l) : (Instr.findKey 58 (kB x) es).run Try.prog w = .ok (findL x l 0) w := by
  have ha := run_asking x w es l 0 h
  unfold Instr.findKey
  rw [Sem.run_bind, run_underlying Try.underlying58 w]
  simp only [Result.andThen_ok]
  cases es with
  | nil =>
    cases l with
    | nil => simp [Instr.findNow, findL]
    | cons => simp [KV] at h
  | cons e es => simpa [Instr.findNow, Instr.sameNow] using ha
theorem check58 (b : Bool) (x : Nat) (w : World) : (Instr.checkKey b 10000 58 (kB x)).run Try.prog w = .ok () w := by
  have h : ∀ n, (Instr.checkKey b (n+1) 3 (.int .i64 (x:Int))).run Try.prog w = .ok () w := by
    intro n; simp [Instr.checkKey, run_underlying Try.underlying3]
  have h0 : ∀ n, (Instr.checkKey b (n+1) 3 (.int .i64 0)).run Try.prog w = .ok () w := by
    intro n; simp [Instr.checkKey, run_underlying Try.underlying3]
  unfold kB vN
  show (Instr.checkKey b (9998 + 1 + 1) 58 _).run Try.prog w = _
  rw [Instr.checkKey]
  simp [run_underlying Try.underlying58, part, isAgg, run_underlying Try.underlying3, h, h0]
theorem erase_at {x : Nat} : ∀ {l : List Nat} {j : Nat}, l.Nodup → l[j]? = some x → l.erase x = l.eraseIdx j
  | [], _, _, h => by simp at h
  | a :: l, 0, _, h => by simp at h; subst h; simp
  | a :: l, j + 1, hn, h => by
    obtain ⟨h1, h2⟩ := List.nodup_cons.1 hn
    have h' : l[j]? = some x := by simpa using h
    have hne : a ≠ x := fun e => h1 (e ▸ List.mem_of_getElem? h')
    rw [List.erase_cons_tail (by simpa using hne), List.eraseIdx_cons_succ, erase_at h2 h']
def MapB (w : World) (hm : Nat) (l : List Nat) : Prop := ∃ es c, ob w hm = some (.map es c) ∧ KV es.toList l ∧ l.Nodup
theorem MapB.keep {S : List Nat} {w w' : World} {hm : Nat} {l : List Nat} (h : MapB w hm l) (hk : Keep S w w') (hn : hm ∉ S) : MapB w' hm l := by
  obtain ⟨es, c, h1, h2⟩ := h
  exact ⟨es, c, hk.kp h1 hn, h2⟩
theorem findL_none {x : Nat} : ∀ {l : List Nat} {i : Nat}, x ∉ l → findL x l i = none
  | [], _, _ => rfl
  | y :: l, i, h => by
    simp only [List.mem_cons, not_or] at h
    rw [findL, if_neg h.1]
    exact findL_none h.2
theorem findL_some {x : Nat} : ∀ {l : List Nat} {i : Nat}, x ∈ l → ∃ j, findL x l i = some (i + j, .bool true) ∧ l[j]? = some x
  | [], _, h => by cases h
  | y :: l, i, h => by
    rw [findL]
    by_cases e : x = y
    · subst e; rw [if_pos rfl]; exact ⟨0, rfl, rfl⟩
    · rw [if_neg e]
      obtain ⟨j, h1, h2⟩ := findL_some (i := i + 1) ((List.mem_cons.1 h).resolve_left e)
      exact ⟨j + 1, by rw [h1, Nat.add_assoc, Nat.add_comm 1 j], by simpa using h2⟩
theorem zero4 (w : World) : (zeroValue 4).run Try.prog w = .ok (.bool false) w := by kernel_rfl
theorem MapB.look {w : World} {hm : Nat} {l : List Nat} (h : MapB w hm l) (x : Nat) : (Instr.lookup 52 (.map (some hm)) (kB x) false).run Try.prog w = .ok (.bool (decide (x ∈ l))) w := by
  obtain ⟨es, c, h1, h2, h3⟩ := h
  have hf := find58 x w es.toList l h2
  by_cases hx : x ∈ l
  · obtain ⟨j, h4, _⟩ := findL_some (i := 0) hx
    rw [h4] at hf
    simp [Instr.lookup, run_underlying Try.underlying52, getObj_map h1, check58, hf, hx]
  · rw [findL_none hx] at hf
    simp [Instr.lookup, run_underlying Try.underlying52, getObj_map h1, check58, hf, hx, zero4]
theorem MapB.put {w : World} {hm : Nat} {l : List Nat} (h : MapB w hm l) (x : Nat) (hn : x ∉ l) :
    ∃ w', (Instr.mapUpdate 52 (.map (some hm)) (kB x) (.bool true)).run Try.prog w = .ok () w' ∧ MapB w' hm (l ++ [x]) ∧ Keep [hm] w w' := by
  obtain ⟨es, c, h1, h2, h3⟩ := h
  have hf := find58 x w es.toList l h2
  rw [findL_none hn] at hf
  refine ⟨ChangeMaps.setBlock w hm (.map (es.push { key := kB x, val := .bool true, born := c }) (c + 1)), ?_, ⟨_, _, ob_setBlock_same h1, ?_, ?_⟩, (Keep.refl _ _).setBlock (.inl (by simp)) _⟩
  · simp [Instr.mapUpdate, run_underlying Try.underlying52, getObj_map h1, check58, hf, setObj_map _ h1]
  · unfold KV at *
    simp [h2]
  · rw [List.nodup_append]
    exact ⟨h3, by simp, fun a ha b hb e => by simp at hb; subst hb; subst e; exact hn ha⟩
theorem MapB.cut {w : World} {hm : Nat} {l : List Nat} (h : MapB w hm l) (x : Nat) (hx : x ∈ l) (ty : TypeId) :
    ∃ w', (Builtin.delete_ #[52, 58] ty #[.map (some hm), kB x]).run Try.prog w = .ok (.tuple #[]) w' ∧ MapB w' hm (l.erase x) ∧ Keep [hm] w w' := by
  obtain ⟨es, c, h1, h2, h3⟩ := h
  have hf := find58 x w es.toList l h2
  obtain ⟨j, h4, h5⟩ := findL_some (i := 0) hx
  rw [h4, Nat.zero_add] at hf
  refine ⟨ChangeMaps.setBlock w hm (.map (es.eraseIdxIfInBounds j) c), ?_, ⟨_, _, ob_setBlock_same h1, ?_, h3.erase x⟩, (Keep.refl _ _).setBlock (.inl (by simp)) _⟩
  · simp [Builtin.delete_, run_underlying Try.underlying52, getObj_map h1, check58, hf, setObj_map _ h1]
  · unfold KV at *
    have hj : j < l.length := (List.getElem?_eq_some_iff.1 h5).1
    have he : l.erase x = l.eraseIdx j := erase_at h3 h5
    have : (es.eraseIdxIfInBounds j).toList = es.toList.eraseIdx j := by simp [Array.eraseIdxIfInBounds]; split <;> simp_all [List.eraseIdx_of_length_le]
    rw [this, map_eraseIdx, h2, he, map_eraseIdx]
end Go.Proofs.Ytehmjjfgefopdaa
