import Derived.Test.YtehmjjfgefopdaaWy
namespace Go.Proofs.Ytehmjjfgefopdaa
open Go.RowKit
set_option linter.unusedSimpArgs false
set_option linter.unusedVariables false
attribute [local go_sem] ob_alloc ob_drew ob_drewN ob_setCell ob_setBlock objSet_cells obMap_map obClock_map isMapI_map keyI_mk findI_nil findI_cons lookRes_some lookRes_none lookRes_some' lookRes_none' setBlock_alloc mapPut

/-! ### two spaces -/
theorem Sp.congr {M M' : Nat → Nat → EN} {r : Nat} {lv : LV} (h : Sp M r lv) (he : ∀ f, lv f ≠ none → ∀ p, M' f p = M f p) : Sp M' r lv := by
  refine ⟨h.rt, h.le, fun f l hf p hp hv => ?_, fun f l hf => ?_, fun f l p f' l' p' hf hl hf' hl' hp hp' hv hv' hE => ?_⟩
  · rw [he f (by rw [hf]; simp)] at hv ⊢
    exact h.tab f l hf p hp hv
  · obtain ⟨f', p, h1, h2, h3, h4⟩ := h.par f l hf
    refine ⟨f', p, h1, h2, ?_⟩
    rw [he f' (by rw [h1]; simp)]
    exact ⟨h3, h4⟩
  · rw [he f (by rw [hf]; simp)] at hv hE
    rw [he f' (by rw [hf']; simp)] at hv' hE
    exact h.inj f l p f' l' p' hf hl hf' hl' hp hp' hv hv' hE
def lv0 (r : Nat) : LV := fun f => if f = r then some 0 else none
theorem Sp.new {M : Nat → Nat → EN} {r : Nat} (hz : ∀ p, p < 16 → M r p = eZ) : Sp M r (lv0 r) := by
  have h1 : ∀ f l, lv0 r f = some l → f = r ∧ l = 0 := fun f l h => by
    unfold lv0 at h
    split at h
    · rename_i e
      cases h
      exact ⟨e, rfl⟩
    · cases h
  refine ⟨fun f => ⟨fun h => (h1 f 0 h).1, fun h => by subst h; simp [lv0]⟩, fun f l h => by rw [(h1 f l h).2]; omega, fun f l hf p hp hv => ?_, fun f l hf => ?_, fun f l p f' l' p' hf hl hf' hl' hp hp' hv hv' hE => ?_⟩
  · rw [(h1 f l hf).1, hz p hp] at hv; cases hv
  · have := (h1 f _ hf).2; omega
  · rw [(h1 f l hf).1, hz p hp] at hv; cases hv
theorem lv0_ne {r f : Nat} : lv0 r f ≠ none ↔ f = r := by unfold lv0; split <;> simp_all
/-- memory and giver, all new since a world -/
structure ST (W0 w : World) (bd m g n R : Nat) (M : Nat → Nat → EN) (H : List Nat) : Prop where
  me : MemE w m g n M
  kp : Keep [] W0 w
  gg : W0.heap.size ≤ g
  ex : ∃ L F, BudAt w bd m L H F ∧ BS n R L H ∧ ∀ b ∈ F, W0.heap.size ≤ b
/-- blocks that no call of the kernel writes -/
def Stay (w w' : World) : Prop := ∀ b cs t f, ob w b = some (.cells cs t f) → (t == 55) = false → (t == 3) = false → t ≠ 107 → ob w' b = some (.cells cs t f)
section
variable {W0 w w' : World} {bd m g n R : Nat} {M M' : Nat → Nat → EN} {H H' : List Nat}
theorem ST.new (h : ST W0 w bd m g n R M H) (k : Keep [] w w') : ST W0 w' bd m g n R M H := by
  obtain ⟨L, F, h1, h2, h3⟩ := h.ex
  exact ⟨h.me.keep k (by simp) (by simp), h.kp.trans k, h.gg, L, F, h1.new k, h2, h3⟩
theorem ST.call (h : ST W0 w bd m g n R M H) : ∃ L F, BudAt w bd m L H F ∧ BS n R L H ∧ ∀ w' M' H', MB w w' bd m g n R M' H' F → ST W0 w' bd m g n R M' H' ∧ Stay w w' := by
  obtain ⟨L, F, h1, h2, h3⟩ := h.ex
  refine ⟨L, F, h1, h2, fun w' M' H' hb => ?_⟩
  obtain ⟨L', ⟨hM, F', b1, b2, b3⟩, hS⟩ := hb.ex
  have hsz := h.kp.size
  refine ⟨⟨hM, h.kp.andThen b2 (fun x hx => ?_), h.gg, L', F', b1, hS, fun b hb => ?_⟩, fun b cs t f hob t1 t2 t3 => b2.kp hob (fun hm => ?_)⟩
  · rcases List.mem_cons.1 hx with rfl | hx
    · exact .inr h.gg
    · exact .inr (h3 x hx)
  · rcases b3 b hb with e | e
    · exact h3 b e
    · omega
  · rcases List.mem_cons.1 hm with rfl | hm
    · exact h.me.gne hob t3 rfl
    · exact h1.not (ob_kind hob t1 t2) hm
theorem Stay.of (k : Keep [] w w') : Stay w w' := fun b cs t f hb _ _ _ => k.kp hb (by simp)
theorem Stay.trans {w'' : World} (h : Stay w w') (h' : Stay w' w'') : Stay w w'' := fun b cs t f hb t1 t2 t3 => h' b cs t f (h b cs t f hb t1 t2 t3) t1 t2 t3
theorem Stay.sp (h : Stay w w') {sp r : Nat} (hs : ob w sp = some (spO m bd r)) : ob w' sp = some (spO m bd r) := h sp _ _ _ hs rfl rfl (by decide)
end
structure TS (W0 w : World) (bd m g n R sp tp rs rt : Nat) (M : Nat → Nat → EN) (H : List Nat) (lvs lvt : LV) : Prop where
  st : ST W0 w bd m g n R M H
  ss : Sp M rs lvs
  tt : Sp M rt lvt
  dj : ∀ f, lvs f ≠ none → lvt f = none
  hd : ∀ f, f ∈ H ↔ (lvs f ≠ none ∨ lvt f ≠ none)
  zs : Zs M H
  os : ob w sp = some (spO m bd rs)
  ot : ob w tp = some (spO m bd rt)
section
variable {W0 w w' : World} {bd m g n R sp tp rs rt : Nat} {M M' : Nat → Nat → EN} {H H' : List Nat} {lvs lvt lv' : LV}
theorem TS.swap (h : TS W0 w bd m g n R sp tp rs rt M H lvs lvt) : TS W0 w bd m g n R tp sp rt rs M H lvt lvs :=
  ⟨h.st, h.tt, h.ss, fun f hf => Classical.byContradiction fun e => hf (h.dj f e), fun f => by rw [h.hd f]; exact Or.comm, h.zs, h.ot, h.os⟩
theorem TS.new (h : TS W0 w bd m g n R sp tp rs rt M H lvs lvt) (k : Keep [] w w') : TS W0 w' bd m g n R sp tp rs rt M H lvs lvt :=
  ⟨h.st.new k, h.ss, h.tt, h.dj, h.hd, h.zs, k.kp h.os (by simp), k.kp h.ot (by simp)⟩
theorem TS.sown (h : TS W0 w bd m g n R sp tp rs rt M H lvs lvt) : ∀ f, lvs f ≠ none → f ∈ H := fun f hf => (h.hd f).2 (.inl hf)
theorem TS.slt (h : TS W0 w bd m g n R sp tp rs rt M H lvs lvt) : ∀ f, lvs f ≠ none → f < n := fun f hf => by
  obtain ⟨L, F, h1, h2, h3⟩ := h.st.ex
  exact (h2.held (h.sown f hf)).2
theorem TS.move (h : TS W0 w bd m g n R sp tp rs rt M H lvs lvt) (hst : ST W0 w' bd m g n R M' H') (hy : Stay w w') (hs : Sp M' rs lv') (hz : Zs M' H') (hm : Mv H M lvs H' M' lv') :
    TS W0 w' bd m g n R sp tp rs rt M' H' lv' lvt ∧ ∀ p, fEI M' rt p = fEI M rt p := by
  have ho : ∀ f, lvt f ≠ none → f ∈ H ∧ lvs f = none := fun f hf => ⟨(h.hd f).2 (.inr hf), Classical.byContradiction fun e => hf (h.dj f e)⟩
  have hM : ∀ f, lvt f ≠ none → ∀ p, M' f p = M f p := fun f hf p => (hm.oth f (ho f hf).1 (ho f hf).2).2 p
  refine ⟨⟨hst, hs, h.tt.congr hM, fun f hf => Classical.byContradiction fun e => hf (hm.oth f (ho f e).1 (ho f e).2).1, fun f => ?_, hz, hy.sp h.os, hy.sp h.ot⟩, fun p => ?_⟩
  · rw [hm.hl f]
    constructor
    · rintro (h1 | ⟨h1, h2⟩)
      · exact .inl h1
      · rcases (h.hd f).1 h1 with h3 | h3
        · exact absurd h2 h3
        · exact .inr h3
    · rintro (h1 | h1)
      · exact .inl h1
      · exact .inr (ho f h1)
  · unfold fEI
    split
    · exact fE_same h.tt hM _
    · rfl
end
end Go.Proofs.Ytehmjjfgefopdaa
