import Derived.Test.YtfljhfggjbkomaaUg
namespace Go.Proofs.Ytfljhfggjbkomaa
open Go.RowKit
set_option linter.unusedSimpArgs false
set_option linter.unusedVariables false
attribute [local go_sem] ob_alloc ob_drew ob_drewN ob_setCell ob_setBlock objSet_cells obMap_map obClock_map isMapI_map keyI_mk findI_nil findI_cons lookRes_some lookRes_none lookRes_some' lookRes_none' setBlock_alloc mapPut

/-! ### the steps of a board -/
structure FP where
  n1 : Nat
  c1 : Array Value
  n2 : Nat
  c2 : Array Value
def stE : Enc FP 2 := ⟨fun p => [.func (.func p.n1) #[] p.c1, .func (.func p.n2) #[] p.c2], fun _ => rfl, fun p u hu => by
  simp at hu
  rcases hu with rfl | rfl <;> rfl⟩
theorem info135 : (Try.prog.info? 135).map (fun i => (i.zero, i.size, i.bytes)) = some (some (.agg #[.nilFunc, .nilFunc]), 2, 16) := by kernel_rfl
def stCap (pb po pi : Nat) : Array Value := #[.pointer (some ⟨pb, 0, none⟩), .pointer (some ⟨po, 0, none⟩), .pointer (some ⟨pi, 0, none⟩)]
def stFP (pb po pi : Nat) : FP := ⟨69, stCap pb po pi, 70, stCap pb po pi⟩
/-- what has been made so far -/
structure SR (ws wr : World) (bo pb : Nat) (O : Nat → OpB) (k : Nat) (pi : Nat) (v : Value) (rows : List FP) (kn : List (Nat × Obj)) : Prop where
  kp : Keep [] ws wr
  row : RowE stE 135 wr ws.heap.size v rows
  len : rows.length = k
  ow : ∀ x ∈ kn, ob wr x.1 = some x.2 ∧ ws.heap.size ≤ x.1 ∧ v.ownBlock ≠ some x.1
  hb : (pb, vB bo) ∈ kn
  hi : (pi, vI' k) ∈ kn
  all : ∀ j, j < k → ∃ po pj, rows[j]? = some (stFP pb po pj) ∧ (po, vO (O j)) ∈ kn ∧ (pj, vI' j) ∈ kn
section
variable {ws wr : World} {bo pb : Nat} {O : Nat → OpB} {k pi : Nat} {v : Value} {rows : List FP} {kn : List (Nat × Obj)}
theorem SR.alloc (h : SR ws wr bo pb O k pi v rows kn) (cs : Array Value) (t : TypeId) : SR ws (wr.alloc (.cells cs t)) bo pb O k pi v rows ((wr.heap.size, .cells cs t (0, 0)) :: kn) := by
  have hk : Keep [] wr (wr.alloc (.cells cs t)) := (Keep.refl _ _).alloc _
  refine ⟨h.kp.trans hk, h.row.keep hk (by simp), h.len, fun x hx => ?_, List.mem_cons_of_mem _ h.hb, List.mem_cons_of_mem _ h.hi, fun j hj => ?_⟩
  · rcases List.mem_cons.1 hx with rfl | hx
    · refine ⟨al_new _ _ rfl, h.kp.size, fun e => ?_⟩
      have := ownBlock_lt h.row e
      exact absurd this (by show ¬ wr.heap.size < wr.heap.size; omega)
    · exact ⟨hk.kp (h.ow x hx).1 (by simp), (h.ow x hx).2⟩
  · obtain ⟨po, pj, g1, g2, g3⟩ := h.all j hj
    exact ⟨po, pj, g1, List.mem_cons_of_mem _ g2, List.mem_cons_of_mem _ g3⟩
/-- one step more -/
theorem SR.push (h : SR ws wr bo pb O k pi v rows kn) {po : Nat} (ho : (po, vO (O k)) ∈ kn) (hn : k ≤ 1000) :
    ∃ va vc va' vc' w', v = .slice va k vc ∧ (∀ ty, (Builtin.append_ #[109, 109] ty #[.slice va k vc, .slice (some ⟨wr.heap.size, 0, none⟩) 1 1]).run Try.prog (wr.alloc (.cells #[.func (.func 69) #[] (stCap pb po pi), .func (.func 70) #[] (stCap pb po pi)] 135)) = .ok (.slice va' (k + 1) vc') w') ∧ (∀ x ∈ kn, ob w' x.1 = some x.2) ∧
      ∀ w'', Keep [] w' w'' → ∀ pi' kn', (∀ x ∈ kn', x ∈ kn ∨ (ob w'' x.1 = some x.2 ∧ w'.heap.size ≤ x.1)) → (pb, vB bo) ∈ kn' → (pi', vI' ((k + 1 : Nat) : Int)) ∈ kn' → (∀ x ∈ kn, x ∈ kn') → SR ws w'' bo pb O (k + 1) pi' (.slice va' (k + 1) vc') (rows ++ [stFP pb po pi]) kn' := by
  obtain ⟨va, vc, rfl⟩ := h.row.slice
  have hA := al_new wr (.cells #[.func (.func 69) #[] (stCap pb po pi), .func (.func 70) #[] (stCap pb po pi)] 135) rfl
  have kA : Keep [] wr (wr.alloc (.cells #[.func (.func 69) #[] (stCap pb po pi), .func (.func 70) #[] (stCap pb po pi)] 135)) := (Keep.refl _ _).alloc _
  obtain ⟨va', vc', w', g1, g2, g3, g4⟩ := (h.row.keep kA (by simp)).push (P := Try.prog) Try.underlying109 info135 rfl (by omega) (stFP pb po pi) hA 1 (by rw [h.len]; omega) (by omega) (by have := h.kp.size; have := kA.size; omega)
  rw [h.len] at g1 g2 g3 g4 ⊢
  have kB : Keep (Value.slice va k vc).ownBlock.toList wr w' := (kA.mono (by simp)).trans g3
  have hrow : ∀ b, (Value.slice va' (k + 1) vc').ownBlock = some b → (Value.slice va k vc).ownBlock = some b ∨ wr.heap.size < b := by
    intro b hb
    rcases g4 with g4 | g4
    · exact .inl (g4.symm.trans hb)
    · rw [g4] at hb
      simp at hb
      exact .inr (by omega)
  have hold : ∀ x ∈ kn, ob w' x.1 = some x.2 := fun x hx => by
    obtain ⟨q1, q2, q3⟩ := h.ow x hx
    refine kB.kp q1 (fun hm => ?_)
    rw [h.len] at q3
    simp only [Option.mem_toList] at hm
    exact q3 hm
  refine ⟨va, vc, va', vc', w', rfl, g1, hold, fun w'' hk pi' kn' hkn hb hi hsub => ?_⟩
  refine ⟨(h.kp.andThen kB (fun y hy => ?_)).trans hk, g2.keep hk (by simp), by rw [List.length_append, h.len]; rfl, fun x hx => ?_, hb, hi, fun j hj => ?_⟩
  · have h0 := h.row
    simp only [Option.mem_toList] at hy
    rw [← h.len] at hy
    exact .inr (ownBlock_ge h0 hy)
  · rcases hkn x hx with hx | ⟨hx1, hx2⟩
    · obtain ⟨q1, q2, q3⟩ := h.ow x hx
      refine ⟨hk.kp (kB.kp q1 (fun hm => ?_)) (by simp), q2, fun e => ?_⟩
      · rw [h.len] at q3
        simp only [Option.mem_toList] at hm
        exact q3 hm
      · rw [h.len] at q3
        rcases hrow _ e with e | e
        · exact q3 e
        · have := ob_lt q1; omega
    · refine ⟨hx1, by have := h.kp.size; have := kB.size; omega, fun e => ?_⟩
      have := ownBlock_lt g2 e; omega
  · by_cases e : j = k
    · subst e
      exact ⟨po, pi, by rw [List.getElem?_append_right (by rw [h.len]; omega), h.len]; simp, hsub _ ho, hsub _ h.hi⟩
    · obtain ⟨po', pj, q1, q2, q3⟩ := h.all j (by omega)
      exact ⟨po', pj, by rw [List.getElem?_append_left (by rw [h.len]; omega)]; exact q1, hsub _ q2, hsub _ q3⟩
end
end Go.Proofs.Ytfljhfggjbkomaa
