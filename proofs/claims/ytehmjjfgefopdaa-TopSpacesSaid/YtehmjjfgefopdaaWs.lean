import Derived.Test.YtehmjjfgefopdaaWr
namespace Go.Proofs.Ytehmjjfgefopdaa
open Go.RowKit
set_option linter.unusedSimpArgs false
set_option linter.unusedVariables false
attribute [local go_sem] ob_alloc ob_drew ob_drewN ob_setCell ob_setBlock objSet_cells obMap_map obClock_map isMapI_map keyI_mk findI_nil findI_cons lookRes_some lookRes_none lookRes_some' lookRes_none' setBlock_alloc mapPut

/-! ### Unmap -/
theorem MemE.congr {w : World} {m g n : Nat} {M M' : Nat → Nat → EN} (h : MemE w m g n M) (he : ∀ f p, p < 16 → M f p = M' f p) (hok : ∀ f p, okE (M' f p) = true) : MemE w m g n M' :=
  ⟨h.1.congr (fun i _ => by unfold sE; rw [he _ _ (Nat.mod_lt _ (by omega))]), hok⟩
theorem okE_updE {M : Nat → Nat → EN} (h : ∀ f p, okE (M f p) = true) (f p : Nat) {e : EN} (he : okE e = true) : ∀ f' p', okE (updE M f p e f' p') = true := fun f' p' => by
  unfold updE; split
  · exact he
  · exact h f' p'
theorem okE_blank {e : EN} (h : okE e = true) (hv : e.v = false) : e = eZ := by
  unfold okE at h
  rw [hv] at h
  simpa using h
theorem blankE_out {M : Nat → Nat → EN} {f : Nat} (h : blankE M f = true) : ∀ p, p < 16 → (M f p).v = false := fun p hp => by
  unfold blankE at h
  rw [List.all_eq_true] at h
  have := h p (List.mem_range.2 hp)
  simpa using this
def MvP (w : World) (bd m g n R : Nat) (M : Nat → Nat → EN) (H F : List Nat) (r : Nat) (lv : LV) : Ending → World → Prop := fun o w' =>
  ∃ v M' H' lv', o = .returned v ∧ MB w w' bd m g n R M' H' F ∧ Sp M' r lv' ∧ Zs M' H' ∧ Mv H M lv H' M' lv' ∧ H'.length ≤ H.length + 2
/-- the way back, in work: the frame behind the place i is given back already -/
structure UI (w wr : World) (bd m g n R : Nat) (M : Nat → Nat → EN) (H F : List Nat) (r pg : Nat) (lv : LV) (P : List (Nat × Obj)) (i : Nat) (M' : Nat → Nat → EN) (H' : List Nat) (lv' : LV) : Prop where
  q : MQ w wr bd m g n R M' (if i = 2 then H' else H'.erase (frP M r pg (i + 1))) F P (.slice none 0 0) []
  sp : Sp M' r lv'
  mv : Mv H M lv H' M' lv'
  zs : Zs M' (if i = 2 then H' else H'.erase (frP M r pg (i + 1)))
  nd : H'.Nodup
  ln : H'.length ≤ H.length
  pa : ∀ j, j ≤ i → M' (frP M r pg j) (plc pg j) = M (frP M r pg j) (plc pg j) ∧ lv' (frP M r pg j) = some j
  bl : i < 2 → ∀ p, p < 16 → (M' (frP M r pg (i + 1)) p).v = false
def UH1 (M : Nat → Nat → EN) (r pg i : Nat) (H' : List Nat) : List Nat := if i = 2 then H' else H'.erase (frP M r pg (i + 1))
def ULv (M : Nat → Nat → EN) (r pg i : Nat) (lv' : LV) : LV := if i = 2 then lv' else lvU lv' (frP M r pg (i + 1)) none
section
variable {w wr : World} {bd m g n R : Nat} {M M' : Nat → Nat → EN} {H H' F : List Nat} {r pg i : Nat} {lv lv' : LV} {P : List (Nat × Obj)}
theorem UI.lvc (h : UI w wr bd m g n R M H F r pg lv P i M' H' lv') (hi : i < 3) (hv : ∀ j, j < 3 → (atP M r pg j).v = true) (h2 : i ≠ 2) : lv' (frP M r pg (i + 1)) = some (i + 1) := by
  have h1 := h.pa i (Nat.le_refl _)
  have e : (M' (frP M r pg i) (plc pg i)).f = frP M r pg (i + 1) := by rw [h1.1]; rfl
  rw [← e]
  exact h.sp.ne_child h1.2 (by omega) (plc_lt _ _) (by rw [h1.1]; exact hv i hi)
theorem UI.sp1 (h : UI w wr bd m g n R M H F r pg lv P i M' H' lv') (hi : i < 3) (hv : ∀ j, j < 3 → (atP M r pg j).v = true) : Sp (updE M' (frP M r pg i) (plc pg i) eZ) r (ULv M r pg i lv') := by
  have h1 := h.pa i (Nat.le_refl _)
  unfold ULv
  by_cases e : i = 2
  · rw [if_pos e]
    subst e
    exact h.sp.leaf h1.2 (plc_lt _ _) eZ (fun e => by cases e)
  · rw [if_neg e]
    exact h.sp.unlink h1.2 (by omega) (plc_lt _ _) (by rw [h1.1]; exact hv i hi) (by rw [h1.1]; rfl) (h.bl (by omega))
theorem UI.mv1 (h : UI w wr bd m g n R M H F r pg lv P i M' H' lv') (hi : i < 3) (hv : ∀ j, j < 3 → (atP M r pg j).v = true) : Mv H M lv (UH1 M r pg i H') (updE M' (frP M r pg i) (plc pg i) eZ) (ULv M r pg i lv') := by
  have h1 := h.pa i (Nat.le_refl _)
  unfold UH1 ULv
  by_cases e : i = 2
  · rw [if_pos e, if_pos e]
    exact h.mv.trans (Mv.leaf h.mv.own (by rw [h1.2]; simp) _ _)
  · rw [if_neg e, if_neg e]
    exact h.mv.trans (Mv.unlink h.nd h.mv.own (by rw [h1.2]; simp) (by rw [h.lvc hi hv e]; simp) _ _)
theorem UI.zs1 (h : UI w wr bd m g n R M H F r pg lv P i M' H' lv') : Zs (updE M' (frP M r pg i) (plc pg i) eZ) (UH1 M r pg i H') := fun f hf p hp => by
  unfold updE
  split
  · rfl
  · exact h.zs f hf p hp
theorem UI.nd1 (h : UI w wr bd m g n R M H F r pg lv P i M' H' lv') : (UH1 M r pg i H').Nodup ∧ (UH1 M r pg i H').length ≤ H.length := by
  unfold UH1
  have := h.ln
  split
  · exact ⟨h.nd, this⟩
  · exact ⟨h.nd.erase _, Nat.le_trans (List.length_erase_le) this⟩
theorem UI.pa1 (h : UI w wr bd m g n R M H F r pg lv P i M' H' lv') (hi : i < 3) (hv : ∀ j, j < 3 → (atP M r pg j).v = true) : ∀ j, j < i → updE M' (frP M r pg i) (plc pg i) eZ (frP M r pg j) (plc pg j) = M (frP M r pg j) (plc pg j) ∧ ULv M r pg i lv' (frP M r pg j) = some j := fun j hj => by
  have h1 := h.pa i (Nat.le_refl _)
  have h2 := h.pa j (by omega)
  constructor
  · rw [updE_ne _ _ _ _ (fun x => by rw [x.1, h1.2] at h2; simp at h2; omega)]
    exact h2.1
  · unfold ULv
    split
    · exact h2.2
    · rename_i e
      rw [lvU_ne _ _ (fun x => by
        have := h.lvc hi hv e
        rw [← x, h2.2] at this
        simp at this; omega)]
      exact h2.2
theorem UI.self1 (h : UI w wr bd m g n R M H F r pg lv P i M' H' lv') (hi : i < 3) (hv : ∀ j, j < 3 → (atP M r pg j).v = true) : ULv M r pg i lv' (frP M r pg i) = some i := by
  have h1 := h.pa i (Nat.le_refl _)
  unfold ULv
  split
  · exact h1.2
  · rename_i e
    rw [lvU_ne _ _ (fun x => by
      have := h.lvc hi hv e
      rw [← x, h1.2] at this
      simp at this)]
    exact h1.2
end
end Go.Proofs.Ytehmjjfgefopdaa
