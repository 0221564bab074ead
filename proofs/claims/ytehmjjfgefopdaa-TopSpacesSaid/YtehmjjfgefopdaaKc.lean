import Derived.Test.YtehmjjfgefopdaaWi
namespace Go.Proofs.Ytehmjjfgefopdaa
open Go.RowKit
set_option linter.unusedSimpArgs false
set_option linter.unusedVariables false

/-! ### spaces, plainly -/
abbrev LV := Nat → Option Nat
structure Sp (M : Nat → Nat → EN) (r : Nat) (lv : LV) : Prop where
  rt : ∀ f, lv f = some 0 ↔ f = r
  le : ∀ f l, lv f = some l → l ≤ 2
  tab : ∀ f l, lv f = some l → ∀ p, p < 16 → (M f p).v = true → (M f p).t = decide (l < 2) ∧ (l < 2 → lv (M f p).f = some (l + 1))
  par : ∀ f l, lv f = some (l + 1) → ∃ f' p, lv f' = some l ∧ p < 16 ∧ (M f' p).v = true ∧ (M f' p).f = f
  inj : ∀ f l p f' l' p', lv f = some l → l < 2 → lv f' = some l' → l' < 2 → p < 16 → p' < 16 → (M f p).v = true → (M f' p').v = true → (M f p).f = (M f' p').f → f = f' ∧ p = p'
def lvU (lv : LV) (a : Nat) (x : Option Nat) : LV := fun g => if g = a then x else lv g
theorem lvU_same (lv : LV) (a : Nat) (x : Option Nat) : lvU lv a x a = x := by simp [lvU]
theorem lvU_ne (lv : LV) {a g : Nat} (x : Option Nat) (h : g ≠ a) : lvU lv a x g = lv g := by simp [lvU, h]
theorem updE_same (M : Nat → Nat → EN) (f p : Nat) (e : EN) : updE M f p e f p = e := by simp [updE]
theorem updE_ne (M : Nat → Nat → EN) (f p : Nat) (e : EN) {f' p' : Nat} (h : ¬ (f' = f ∧ p' = p)) : updE M f p e f' p' = M f' p' := by unfold updE; rw [if_neg h]
section
variable {M : Nat → Nat → EN} {r : Nat} {lv : LV}
theorem Sp.ne_child (h : Sp M r lv) {f l p : Nat} (hf : lv f = some l) (hl : l < 2) (hp : p < 16) (hv : (M f p).v = true) : lv (M f p).f = some (l + 1) := (h.tab f l hf p hp hv).2 hl
theorem Sp.leaf (h : Sp M r lv) {f p : Nat} (hf : lv f = some 2) (hp : p < 16) (e : EN) (he : e.v = true → e.t = false) : Sp (updE M f p e) r lv := by
  have hne : ∀ g l, lv g = some l → l < 2 → ∀ q, updE M f p e g q = M g q := fun g l hg hl q => updE_ne _ _ _ _ (fun x => by
    rw [x.1, hf] at hg
    cases hg; omega)
  refine ⟨h.rt, h.le, fun g l hg q hq hv => ?_, fun g l hg => ?_, fun g l q g' l' q' hg hl hg' hl' hq hq' hv hv' hE => ?_⟩
  · by_cases x : g = f ∧ q = p
    · obtain ⟨rfl, rfl⟩ := x
      rw [hf] at hg
      cases hg
      rw [updE_same] at hv ⊢
      exact ⟨by rw [he hv]; rfl, fun h => by omega⟩
    · rw [updE_ne _ _ _ _ x] at hv ⊢
      exact h.tab g l hg q hq hv
  · obtain ⟨f', q, h1, h2, h3, h4⟩ := h.par g l hg
    have hl := h.le g _ hg
    refine ⟨f', q, h1, h2, ?_⟩
    rw [hne f' l h1 (by omega)]
    exact ⟨h3, h4⟩
  · rw [hne g l hg hl] at hv hE
    rw [hne g' l' hg' hl'] at hv' hE
    exact h.inj g l q g' l' q' hg hl hg' hl' hq hq' hv hv' hE
theorem Sp.link (h : Sp M r lv) {f l p a : Nat} (hf : lv f = some l) (hl : l < 2) (hp : p < 16) (hv : (M f p).v = false) (ha : lv a = none) (hz : ∀ p, p < 16 → (M a p).v = false) :
    Sp (updE M f p ⟨true, false, true, a⟩) r (lvU lv a (some (l + 1))) := by
  have haf : a ≠ f := fun e => by rw [e, hf] at ha; cases ha
  have hza : ∀ q, q < 16 → (updE M f p ⟨true, false, true, a⟩ a q).v = false := fun q hq => by
    rw [updE_ne _ _ _ _ (fun x => haf x.1)]; exact hz q hq
  have hch : ∀ g l' q, lv g = some l' → l' < 2 → q < 16 → (M g q).v = true → (M g q).f ≠ a := fun g l' q hg hl' hq hv' e => by
    have := h.ne_child hg hl' hq hv'
    rw [e, ha] at this
    cases this
  refine ⟨fun g => ?_, fun g l' hg => ?_, fun g l' hg q hq hv' => ?_, fun g l' hg => ?_, fun g l1 q g' l2 q' hg hl1 hg' hl2 hq hq' hv1 hv2 hE => ?_⟩
  · by_cases e : g = a
    · subst e
      rw [lvU_same]
      constructor
      · intro h1; cases h1
      · intro h1
        rw [(h.rt g).2 h1] at ha; cases ha
    · rw [lvU_ne _ _ e]; exact h.rt g
  · by_cases e : g = a
    · subst e; rw [lvU_same] at hg; cases hg; omega
    · rw [lvU_ne _ _ e] at hg; exact h.le g l' hg
  · by_cases e : g = a
    · subst e; rw [hza q hq] at hv'; cases hv'
    · rw [lvU_ne _ _ e] at hg
      by_cases x : g = f ∧ q = p
      · obtain ⟨rfl, rfl⟩ := x
        rw [updE_same]
        rw [hf] at hg; cases hg
        exact ⟨by simp [hl], fun _ => lvU_same _ _ _⟩
      · rw [updE_ne _ _ _ _ x] at hv' ⊢
        obtain ⟨h1, h2⟩ := h.tab g l' hg q hq hv'
        refine ⟨h1, fun h3 => ?_⟩
        rw [lvU_ne _ _ (hch g l' q hg h3 hq hv')]
        exact h2 h3
  · by_cases e : g = a
    · subst e
      rw [lvU_same] at hg
      cases hg
      refine ⟨f, p, ?_, hp, ?_, ?_⟩
      · rw [lvU_ne _ _ (fun x => haf x.symm)]; exact hf
      · rw [updE_same]
      · rw [updE_same]
    · rw [lvU_ne _ _ e] at hg
      obtain ⟨f', q, h1, h2, h3, h4⟩ := h.par g l' hg
      refine ⟨f', q, ?_, h2, ?_⟩
      · rw [lvU_ne]
        · exact h1
        · intro e2; rw [e2, ha] at h1; cases h1
      · rw [updE_ne _ _ _ _ (fun x => by rw [x.1, x.2, hv] at h3; cases h3)]
        exact ⟨h3, h4⟩
  · have na : g ≠ a := fun e => by subst e; rw [hza q hq] at hv1; cases hv1
    have na' : g' ≠ a := fun e => by subst e; rw [hza q' hq'] at hv2; cases hv2
    rw [lvU_ne _ _ na] at hg
    rw [lvU_ne _ _ na'] at hg'
    by_cases x : g = f ∧ q = p
    · by_cases y : g' = f ∧ q' = p
      · exact ⟨x.1.trans y.1.symm, x.2.trans y.2.symm⟩
      · exfalso
        rw [updE_ne _ _ _ _ y] at hv2 hE
        rw [x.1, x.2, updE_same] at hE
        exact hch g' l2 q' hg' hl2 hq' hv2 hE.symm
    · rw [updE_ne _ _ _ _ x] at hv1 hE
      by_cases y : g' = f ∧ q' = p
      · exfalso
        rw [y.1, y.2, updE_same] at hE
        exact hch g l1 q hg hl1 hq hv1 hE
      · rw [updE_ne _ _ _ _ y] at hv2 hE
        exact h.inj g l1 q g' l2 q' hg hl1 hg' hl2 hq hq' hv1 hv2 hE
theorem Sp.unlink (h : Sp M r lv) {f l p a : Nat} (hf : lv f = some l) (hl : l < 2) (hp : p < 16) (hv : (M f p).v = true) (ha : (M f p).f = a) (hz : ∀ p, p < 16 → (M a p).v = false) :
    Sp (updE M f p eZ) r (lvU lv a none) := by
  have hla : lv a = some (l + 1) := by rw [← ha]; exact h.ne_child hf hl hp hv
  have haf : a ≠ f := fun e => by rw [e, hf] at hla; simp at hla
  have hold : ∀ g q, (updE M f p eZ g q).v = true → ¬ (g = f ∧ q = p) := fun g q h1 x => by
    rw [x.1, x.2, updE_same] at h1; cases h1
  refine ⟨fun g => ?_, fun g l' hg => ?_, fun g l' hg q hq hv' => ?_, fun g l' hg => ?_, fun g l1 q g' l2 q' hg hl1 hg' hl2 hq hq' hv1 hv2 hE => ?_⟩
  · by_cases e : g = a
    · subst e
      rw [lvU_same]
      constructor
      · intro h1; cases h1
      · intro h1
        rw [(h.rt g).2 h1] at hla; simp at hla
    · rw [lvU_ne _ _ e]; exact h.rt g
  · by_cases e : g = a
    · subst e; rw [lvU_same] at hg; cases hg
    · rw [lvU_ne _ _ e] at hg; exact h.le g l' hg
  · have x := hold g q hv'
    by_cases e : g = a
    · subst e; rw [lvU_same] at hg; cases hg
    · rw [lvU_ne _ _ e] at hg
      rw [updE_ne _ _ _ _ x] at hv' ⊢
      obtain ⟨h1, h2⟩ := h.tab g l' hg q hq hv'
      refine ⟨h1, fun h3 => ?_⟩
      rw [lvU_ne]
      · exact h2 h3
      · intro e2
        exact x (h.inj g l' q f l p hg h3 hf hl hq hp hv' hv (e2.trans ha.symm))
  · by_cases e : g = a
    · subst e; rw [lvU_same] at hg; cases hg
    · rw [lvU_ne _ _ e] at hg
      obtain ⟨f', q, h1, h2, h3, h4⟩ := h.par g l' hg
      refine ⟨f', q, ?_, h2, ?_⟩
      · rw [lvU_ne]
        · exact h1
        · intro e2; rw [e2, hz q h2] at h3; cases h3
      · rw [updE_ne _ _ _ _ (fun x => by rw [x.1, x.2, ha] at h4; exact e h4.symm)]
        exact ⟨h3, h4⟩
  · have x := hold g q hv1
    have y := hold g' q' hv2
    rw [updE_ne _ _ _ _ x] at hv1 hE
    rw [updE_ne _ _ _ _ y] at hv2 hE
    have na : g ≠ a := fun e => by subst e; rw [lvU_same] at hg; cases hg
    have na' : g' ≠ a := fun e => by subst e; rw [lvU_same] at hg'; cases hg'
    rw [lvU_ne _ _ na] at hg
    rw [lvU_ne _ _ na'] at hg'
    exact h.inj g l1 q g' l2 q' hg hl1 hg' hl2 hq hq' hv1 hv2 hE
theorem plc_lt (pg k : Nat) : plc pg k < 16 := Nat.mod_lt _ (by omega)
theorem Sp.path (h : Sp M r lv) (pg : Nat) : ∀ k, k < 3 → (∀ j, j < k → (atP M r pg j).v = true) → lv (frP M r pg k) = some k
  | 0, _, _ => (h.rt r).2 rfl
  | k + 1, hk, hv => by
    have ih := Sp.path h pg k (by omega) (fun j hj => hv j (by omega))
    exact h.ne_child ih (by omega) (plc_lt _ _) (hv k (by omega))
theorem Sp.kind (h : Sp M r lv) (pg : Nat) (k : Nat) (hk : k < 3) (hv : ∀ j, j ≤ k → (atP M r pg j).v = true) : (atP M r pg k).t = decide (k < 2) :=
  (h.tab _ k (h.path pg k hk (fun j hj => hv j (by omega))) _ (plc_lt _ _) (hv k (Nat.le_refl _))).1
/-- what is found of a page -/
def fE (M : Nat → Nat → EN) (r pg : Nat) : EN := if (atP M r pg 0).v && (atP M r pg 1).v && (atP M r pg 2).v then atP M r pg 2 else eZ
theorem fE_yes {pg : Nat} (hv : ∀ j, j < 3 → (atP M r pg j).v = true) : fE M r pg = atP M r pg 2 := by
  unfold fE
  rw [hv 0 (by omega), hv 1 (by omega), hv 2 (by omega)]
  rfl
theorem fE_no {pg k : Nat} (hk : k < 3) (hv : (atP M r pg k).v = false) : fE M r pg = eZ := by
  unfold fE
  have : k = 0 ∨ k = 1 ∨ k = 2 := by omega
  rcases this with rfl | rfl | rfl <;> rw [hv] <;> simp
theorem fE_same (h : Sp M r lv) {M' : Nat → Nat → EN} (hM : ∀ f, lv f ≠ none → ∀ p, M' f p = M f p) (pg : Nat) : fE M' r pg = fE M r pg := by
  have h0 : atP M' r pg 0 = atP M r pg 0 := hM r (by rw [(h.rt r).2 rfl]; simp) _
  unfold fE
  rw [h0]
  cases hv0 : (atP M r pg 0).v with
  | false => rfl
  | true =>
    have f1 : frP M' r pg 1 = frP M r pg 1 := by
      show (atP M' r pg 0).f = (atP M r pg 0).f
      rw [h0]
    have l1 := h.path pg 1 (by omega) (fun j hj => by rw [show j = 0 by omega]; exact hv0)
    have h1 : atP M' r pg 1 = atP M r pg 1 := by
      show M' (frP M' r pg 1) _ = M (frP M r pg 1) _
      rw [f1]
      exact hM _ (by rw [l1]; simp) _
    rw [h1]
    cases hv1 : (atP M r pg 1).v with
    | false => rfl
    | true =>
      have f2 : frP M' r pg 2 = frP M r pg 2 := by
        show (atP M' r pg 1).f = (atP M r pg 1).f
        rw [h1]
      have l2 := h.path pg 2 (by omega) (fun j hj => by
        have : j = 0 ∨ j = 1 := by omega
        rcases this with rfl | rfl
        · exact hv0
        · exact hv1)
      have h2 : atP M' r pg 2 = atP M r pg 2 := by
        show M' (frP M' r pg 2) _ = M (frP M r pg 2) _
        rw [f2]
        exact hM _ (by rw [l2]; simp) _
      rw [h2]
end
/-- what a call may have changed, of frames and entries -/
structure Mv (H : List Nat) (M : Nat → Nat → EN) (lv : LV) (H' : List Nat) (M' : Nat → Nat → EN) (lv' : LV) : Prop where
  hl : ∀ f, f ∈ H' ↔ (lv' f ≠ none ∨ (f ∈ H ∧ lv f = none))
  oth : ∀ f, f ∈ H → lv f = none → lv' f = none ∧ ∀ p, M' f p = M f p
theorem Mv.refl {H : List Nat} {M : Nat → Nat → EN} {lv : LV} (h : ∀ f, lv f ≠ none → f ∈ H) : Mv H M lv H M lv :=
  ⟨fun f => ⟨fun hf => by
    by_cases e : lv f = none
    · exact .inr ⟨hf, e⟩
    · exact .inl e, fun hf => hf.elim (h f) (·.1)⟩, fun f _ h2 => ⟨h2, fun _ => rfl⟩⟩
theorem Mv.own {H H' : List Nat} {M M' : Nat → Nat → EN} {lv lv' : LV} (h : Mv H M lv H' M' lv') : ∀ f, lv' f ≠ none → f ∈ H' := fun f hf => (h.hl f).2 (.inl hf)
theorem Mv.trans {H H' H'' : List Nat} {M M' M'' : Nat → Nat → EN} {lv lv' lv'' : LV} (h : Mv H M lv H' M' lv') (h' : Mv H' M' lv' H'' M'' lv'') : Mv H M lv H'' M'' lv'' := by
  refine ⟨fun f => ?_, fun f h1 h2 => ?_⟩
  · rw [h'.hl f]
    constructor
    · rintro (h1 | ⟨h1, h2⟩)
      · exact .inl h1
      · rcases (h.hl f).1 h1 with h3 | h3
        · exact absurd h2 h3
        · exact .inr h3
    · rintro (h1 | ⟨h1, h2⟩)
      · exact .inl h1
      · exact .inr ⟨(h.hl f).2 (.inr ⟨h1, h2⟩), (h.oth f h1 h2).1⟩
  · obtain ⟨h3, h4⟩ := h.oth f h1 h2
    obtain ⟨h5, h6⟩ := h'.oth f ((h.hl f).2 (.inr ⟨h1, h2⟩)) h3
    exact ⟨h5, fun p => (h6 p).trans (h4 p)⟩
theorem Mv.leaf {H : List Nat} {M : Nat → Nat → EN} {lv : LV} (h : ∀ f, lv f ≠ none → f ∈ H) {f : Nat} (hf : lv f ≠ none) (p : Nat) (e : EN) : Mv H M lv H (updE M f p e) lv := by
  refine ⟨(Mv.refl (M := M) h).hl, fun g h1 h2 => ⟨h2, fun q => updE_ne _ _ _ _ (fun x => hf (x.1 ▸ h2))⟩⟩
theorem Mv.link {H : List Nat} {M : Nat → Nat → EN} {lv : LV} (h : ∀ f, lv f ≠ none → f ∈ H) {f a l : Nat} (hf : lv f ≠ none) (ha : a ∉ H) (p : Nat) (e : EN) : Mv H M lv (H ++ [a]) (updE M f p e) (lvU lv a (some l)) := by
  refine ⟨fun g => ?_, fun g h1 h2 => ⟨?_, fun q => updE_ne _ _ _ _ (fun x => hf (x.1 ▸ h2))⟩⟩
  · simp only [List.mem_append, List.mem_singleton]
    by_cases e : g = a
    · subst e; rw [lvU_same]; simp
    · rw [lvU_ne _ _ e]
      have := (Mv.refl (M := M) h).hl g
      by_cases e5 : lv g = none <;> simp [e, e5] at this ⊢ <;> exact this
  · rw [lvU_ne]
    · exact h2
    · intro e; exact ha (e ▸ h1)
theorem Mv.unlink {H : List Nat} (hn : H.Nodup) {M : Nat → Nat → EN} {lv : LV} (h : ∀ f, lv f ≠ none → f ∈ H) {f a : Nat} (hf : lv f ≠ none) (ha : lv a ≠ none) (p : Nat) (e : EN) : Mv H M lv (H.erase a) (updE M f p e) (lvU lv a none) := by
  refine ⟨fun g => ?_, fun g h1 h2 => ⟨?_, fun q => updE_ne _ _ _ _ (fun x => hf (x.1 ▸ h2))⟩⟩
  · rw [hn.mem_erase_iff]
    by_cases e : g = a
    · subst e; rw [lvU_same]; simp [ha]
    · rw [lvU_ne _ _ e]
      have := (Mv.refl (M := M) h).hl g
      by_cases e5 : lv g = none <;> simp [e, e5] at this ⊢ <;> exact this
  · rw [lvU_ne]
    · exact h2
    · intro e; exact ha (e ▸ h2)
/-- what is not held is noughts -/
def Zs (M : Nat → Nat → EN) (H : List Nat) : Prop := ∀ f, f ∉ H → ∀ p, p < 16 → M f p = eZ
end Go.Proofs.Ytehmjjfgefopdaa
