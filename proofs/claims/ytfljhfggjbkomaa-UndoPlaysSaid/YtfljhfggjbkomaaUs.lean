import Derived.Test.YtfljhfggjbkomaaUr
namespace Go.Proofs.Ytfljhfggjbkomaa
open Go.RowKit
set_option linter.unusedSimpArgs false
set_option linter.unusedVariables false
attribute [local go_sem] ob_alloc ob_drew ob_drewN ob_setCell ob_setBlock objSet_cells obMap_map obClock_map isMapI_map keyI_mk findI_nil findI_cons lookRes_some lookRes_none lookRes_some' lookRes_none' setBlock_alloc mapPut

theorem rolI_snoc (O : Nat → OpB) (j : Nat) : ∀ (ls : List Nat) (D : Nat → Int), rolI D O (ls ++ [j]) = rolI (unC D (O j)) O ls
  | [], D => rfl
  | a :: T, D => by
    show unC (rolI D O (T ++ [j])) (O a) = unC (rolI (unC D (O j)) O T) (O a)
    rw [rolI_snoc O j T D]
theorem rolE_snoc (j : Nat) : ∀ (ls : List Nat), rolE (ls ++ [j]) = (2, (j : Int)) :: rolE ls
  | [] => rfl
  | a :: T => by
    show rolE (T ++ [j]) ++ [(2, (a : Int))] = _
    rw [rolE_snoc j T]; rfl
/-- the closures are those of the steps ls -/
def Twin (O : Nat → OpB) (Lc : List Cl) (ls : List Nat) : Prop := (∀ D, rollC D Lc = rolI D O ls) ∧ rollE Lc = rolE ls ∧ Lc.length = ls.length
theorem Twin.nil (O : Nat → OpB) : Twin O [] [] := ⟨fun _ => rfl, rfl, rfl⟩
theorem Twin.snoc {O : Nat → OpB} {Lc : List Cl} {ls : List Nat} (h : Twin O Lc ls) (j : Nat) (v : Value) : Twin O (Lc ++ [⟨v, fun C => unC C (O j), [(2, (j : Int))]⟩]) (ls ++ [j]) :=
  ⟨fun D => by rw [rollC_snoc, rolI_snoc]; exact h.1 _, by rw [rollE_snoc, rolE_snoc, h.2.1]; rfl, by rw [List.length_append, List.length_append, h.2.2]; rfl⟩
def JS (W0 w : World) (bo lg r : Nat) (opsv : Value) (kc : List (Nat × Obj)) (O : Nat → OpB) (n : Nat) (ls : List Nat) (m : Nat) : Prop :=
  ∃ C E Lc bl bs, QS W0 w bo lg r opsv kc C E Lc C (nI ls) E bl bs ∧ Twin O Lc ls ∧ (∀ j ∈ ls, j < n) ∧ E.length + ls.length ≤ m
def JM (W0 w : World) (bo lg r : Nat) (opsv : Value) (kc : List (Nat × Obj)) (O : Nat → OpB) (n : Nat) (ls : List Nat) (i m : Nat) : Prop :=
  ∃ C E Lc D F bl bs, QS W0 w bo lg r opsv kc C E Lc D (nI ls) F bl bs ∧ (∀ j ∈ ls, j < n) ∧ F.length + ls.length ≤ m ∧
    (((O i).fail = 0 ∧ C = doC D (O i) ∧ E = F ++ [(1, (i : Int))] ∧ Twin O Lc (ls ++ [i])) ∨ ((O i).fail ≠ 0 ∧ C = rolI D O ls ∧ E = F ++ [(1, (i : Int))] ++ rolE ls ∧ Lc = []))
def JR (W0 w : World) (bo lg r : Nat) (opsv : Value) (kc : List (Nat × Obj)) (O : Nat → OpB) (n : Nat) (ls : List Nat) (m : Nat) : Prop :=
  ∃ D F bl bs, QS W0 w bo lg r opsv kc (rolI D O ls) (F ++ rolE ls) [] D (nI ls) F bl bs ∧ (∀ j ∈ ls, j < n) ∧ F.length + ls.length ≤ m
def JK (W0 w : World) (bo lg r : Nat) (opsv : Value) (kc : List (Nat × Obj)) (ls : List Nat) (m : Nat) : Prop :=
  ∃ C E bl bs, QS W0 w bo lg r opsv kc C E [] C (nI ls) E bl bs ∧ E.length + ls.length ≤ m
theorem JS.begin {W0 w1 : World} (hk : Keep [] W0 w1) (opsv : Value) (O : Nat → OpB) (n : Nat) :
    JS W0 ((((w1.alloc (lgO (.slice none 0 0))).alloc (bdO (fun _ => 0) (.slice none 0 0))).alloc (.cells #[.pointer (some ⟨w1.heap.size + 1, 0, none⟩)] 26)).alloc (.cells #[.int .i64 0, .int .i64 0, .int .i64 0, .int .i64 0, .slice none 0 0, .slice none 0 0, opsv] 34))
      (w1.heap.size + 1) w1.heap.size (w1.heap.size + 1 + 1 + 1) opsv [(w1.heap.size + 1 + 1, vB (w1.heap.size + 1))] O n [] 0 := by
  have hU := ((UL.begin hk (fun _ => 0)).alloc #[.pointer (some ⟨w1.heap.size + 1, 0, none⟩)] 26).alloc #[.int .i64 0, .int .i64 0, .int .i64 0, .int .i64 0, .slice none 0 0, .slice none 0 0, opsv] 34
  simp only [World.size_alloc, lgO, bdO] at hU
  have hr : ob _ (w1.heap.size + 1 + 1 + 1) = some (rO (fun _ => 0) (.slice none 0 0) (.slice none 0 0) opsv) := hU.obk (.head _)
  have hz := hk.size
  refine ⟨fun _ => 0, [], [], none, none, ⟨⟨[(w1.heap.size + 1 + 1 + 1, rO (fun _ => 0) (.slice none 0 0) (.slice none 0 0) opsv)], hU, ⟨_, .head _⟩, by simp, by simp⟩, ⟨⟨_, _, hr, RowE.nil _ _, RowE.nil _ _, rfl, rfl⟩, by simp, by simp, hU.kp, by omega⟩, ?_, by simp⟩, Twin.nil _, by simp, by simp⟩
  intro x hx
  simp at hx
  subst hx
  exact ⟨by show w1.heap.size + 1 + 1 ≠ w1.heap.size + 1 + 1 + 1; omega, by simp, by simp⟩
section
variable {W0 w w' : World} {bo lg r : Nat} {kc : List (Nat × Obj)} {O : Nat → OpB} {n m : Nat} {ls : List Nat} {opsv : Value} {bb off cap : Nat}
theorem JS.alloc (h : JS W0 w bo lg r opsv kc O n ls m) (cs : Array Value) (t : TypeId) : JS W0 (w.alloc (.cells cs t)) bo lg r opsv ((w.heap.size, .cells cs t (0, 0)) :: kc) O n ls m := by
  obtain ⟨C, E, Lc, bl, bs, h1, h2⟩ := h
  exact ⟨C, E, Lc, bl, bs, h1.alloc cs t, h2⟩
theorem JS.new (h : JS W0 w bo lg r opsv kc O n ls m) (hk : Keep [] w w') : JS W0 w' bo lg r opsv kc O n ls m := by
  obtain ⟨C, E, Lc, bl, bs, h1, h2⟩ := h
  exact ⟨C, E, Lc, bl, bs, h1.new hk, h2⟩
theorem JS.obk (h : JS W0 w bo lg r opsv kc O n ls m) {b : Nat} {o : Obj} (hb : (b, o) ∈ kc) : ob w b = some o := by
  obtain ⟨C, E, Lc, bl, bs, h1, h2⟩ := h
  exact h1.obk hb
theorem JM.obk {i : Nat} (h : JM W0 w bo lg r opsv kc O n ls i m) {b : Nat} {o : Obj} (hb : (b, o) ∈ kc) : ob w b = some o := by
  obtain ⟨C, E, Lc, D, F, bl, bs, h1, h2⟩ := h
  exact h1.obk hb
theorem JS.kp (h : JS W0 w bo lg r opsv kc O n ls m) : Keep [] W0 w := by
  obtain ⟨C, E, Lc, bl, bs, h1, h2⟩ := h
  exact h1.kp
theorem JS.do1 (h : JS W0 w bo lg r opsv kc O n ls m) (hm : m ≤ 1000) (i : Nat) {pb po pi : Nat} (h1 : (pb, vB bo) ∈ kc) (h2 : (po, vO (O i)) ∈ kc) (h3 : (pi, vI' i) ∈ kc) :
    Calls Try.prog 15 #[.pointer (some ⟨lg, 0, none⟩), .func (.func 16) #[] #[.pointer (some ⟨pb, 0, none⟩), .pointer (some ⟨po, 0, none⟩), .pointer (some ⟨pi, 0, none⟩)], .func (.func 18) #[] #[.pointer (some ⟨pb, 0, none⟩), .pointer (some ⟨po, 0, none⟩), .pointer (some ⟨pi, 0, none⟩)]] w
      fun e w' => e = .returned (.int .i64 (O i).fail) ∧ JM W0 w' bo lg r opsv kc O n ls i m := by
  obtain ⟨C, E, Lc, bl, bs, hQ, hT, hj, hE⟩ := h
  have hs : ∀ x ∈ [(pb, vB bo), (po, vO (O i)), (pi, vI' i)], x ∈ kc := by
    intro x hx
    simp at hx
    rcases hx with rfl | rfl | rfl <;> assumption
  have hba := UL.good1 (ba18 W0 bo pb po pi (O i) i) hs (by simp)
  have hll := hT.2.2
  by_cases hf : (O i).fail = 0
  · rw [hf]
    refine (hQ.do_ok ((do16_ok W0 bo pb po pi (O i) i hf).mono hs) (by simp) _ hba (by omega) (by omega)).mono ?_
    rintro e w' ⟨g1, g2⟩
    exact ⟨g1, _, _, _, _, _, _, _, g2, hj, hE, .inl ⟨hf, rfl, rfl, hT.snoc i _⟩⟩
  · refine (hQ.do_no ((do16_no W0 bo pb po pi (O i) i hf).mono hs) hf (by simp) (by omega) (by omega)).mono ?_
    rintro e w' ⟨g1, g2⟩
    exact ⟨g1, _, _, _, _, _, _, _, g2, hj, hE, .inr ⟨hf, hT.1 C, by rw [hT.2.1], rfl⟩⟩
theorem JM.do2 {i : Nat} (h : JM W0 w bo lg r (.slice (some ⟨bb, off, none⟩) n cap) kc O n ls i m) (hm : m ≤ 1000) (hin : i < n) (hn : n ≤ maxLen) (hX : ∀ w', Keep [] W0 w' → ∀ j, j < n → Arg3 bb off (O j) j w') :
    Calls Try.prog 20 #[.pointer (some ⟨r, 0, none⟩), .int .i64 i] w fun e w' => e = .returned (.int .i64 (O i).fail) ∧ ∃ ls', JS W0 w' bo lg r (.slice (some ⟨bb, off, none⟩) n cap) kc O n ls' (m + 2) := by
  obtain ⟨C, E, Lc, D, F, bl, bs, hQ, hj, hF, ⟨hf, rfl, rfl, hT⟩ | ⟨hf, rfl, rfl, rfl⟩⟩ := h
  · rw [hf]
    refine (rDo_ok hQ.rl (O i) i hin hn (fun w' hk => hX w' hk i hin) hf (by rw [nI_len]; omega) (by omega)).mono ?_
    rintro e w' ⟨g1, bl', bs', g2, g3, g4, g5⟩
    have g6 := hQ.byR g2 g3 g4 g5
    have hs : nI ls ++ [(i : Int)] = nI (ls ++ [i]) := by simp [nI]
    rw [hs] at g6
    refine ⟨g1, ls ++ [i], _, _, _, _, _, g6, hT, fun j hj' => ?_, by simp; omega⟩
    rcases List.mem_append.1 hj' with hj' | hj'
    · exact hj j hj'
    · simp at hj'; omega
  · refine (rDo_no hQ.rl O i hin hn hj (fun w' j hk hj => hX w' hk j hj) hf (by omega) (by omega)).mono ?_
    rintro e w' ⟨g1, bs', g2, g3, g5⟩
    have g6 := hQ.byR g2 g3 (.inr (.inl rfl)) g5
    exact ⟨g1, [], _, _, _, _, _, g6, Twin.nil _, by simp, by simp [rolE_len]; omega⟩
theorem JS.roll1 (h : JS W0 w bo lg r opsv kc O n ls m) (hm : m ≤ 1000) :
    Calls Try.prog 21 #[.pointer (some ⟨lg, 0, none⟩)] w fun e w' => e = .returned (.int .i64 (ls.length : Nat)) ∧ JR W0 w' bo lg r opsv kc O n ls m := by
  obtain ⟨C, E, Lc, bl, bs, hQ, hT, hj, hE⟩ := h
  have hll := hT.2.2
  refine (hQ.roll (by omega) (by omega)).mono ?_
  rintro e w' ⟨g1, g2⟩
  rw [hT.1, hT.2.1] at g2
  exact ⟨by rw [g1, hll], _, _, _, _, g2, hj, hE⟩
theorem JR.roll2 (h : JR W0 w bo lg r (.slice (some ⟨bb, off, none⟩) n cap) kc O n ls m) (hm : m ≤ 1000) (hn : n ≤ maxLen) (hX : ∀ w', Keep [] W0 w' → ∀ j, j < n → Arg3 bb off (O j) j w') :
    Calls Try.prog 22 #[.pointer (some ⟨r, 0, none⟩)] w fun e w' => e = .returned (.int .i64 (ls.length : Nat)) ∧ JS W0 w' bo lg r (.slice (some ⟨bb, off, none⟩) n cap) kc O n [] m := by
  obtain ⟨D, F, bl, bs, hQ, hj, hF⟩ := h
  refine (rRoll hQ.rl O hj hn (fun w' j hk hj => hX w' hk j hj) (by omega) (by omega)).mono ?_
  rintro e w' ⟨g1, bs', g2, g3, g5⟩
  have g6 := hQ.byR g2 g3 (.inr (.inl rfl)) g5
  exact ⟨g1, _, _, _, _, _, g6, Twin.nil _, by simp, by simp [rolE_len]; omega⟩
theorem JS.keep1 (h : JS W0 w bo lg r opsv kc O n ls m) :
    Calls Try.prog 23 #[.pointer (some ⟨lg, 0, none⟩)] w fun e w' => e = .returned (.int .i64 (ls.length : Nat)) ∧ JK W0 w' bo lg r opsv kc ls m ∧ ob w' r = ob w r := by
  obtain ⟨C, E, Lc, bl, bs, hQ, hT, hj, hE⟩ := h
  refine hQ.keepL.mono ?_
  rintro e w' ⟨g1, g2, g3⟩
  exact ⟨by rw [g1, hT.2.2], ⟨_, _, _, _, g2, hE⟩, g3⟩
theorem JK.store (h : JK W0 w bo lg r opsv kc ls m) : JS W0 (w.setCell ⟨r, 4, none⟩ (.slice none 0 0)) bo lg r opsv kc O n [] m ∧ w.frozen? ⟨r, 4, none⟩ = false ∧ ∃ x, w.cell? ⟨r, 4, none⟩ = some x := by
  obtain ⟨C, E, bl, bs, hQ, hE⟩ := h
  have hR := hQ.rl
  obtain ⟨Lv, Sv, h1, h2, h3, h4, h5⟩ := hR.ex
  have hkS : Keep [r] w (w.setCell ⟨r, 4, none⟩ (.slice none 0 0)) := (Keep.refl _ _).setCell (.inl (by simp)) 4 _
  have hF : RLw W0 (w.setCell ⟨r, 4, none⟩ (.slice none 0 0)) r opsv C [] E none bs :=
    ⟨⟨_, Sv, (st_same h1).trans rfl, RowE.nil _ _, h3.keep hkS (fun b hb => by simp; exact (hR.ds b (h5 ▸ hb)).1), rfl, h5⟩, fun b hb => (by cases hb), fun b hb => ⟨(hR.ds b hb).1, fun e => (by cases e)⟩, hR.kp.andThen hkS (by intro y hy; simp at hy; subst hy; exact .inr hR.r0), hR.r0⟩
  exact ⟨⟨_, _, _, _, _, hQ.byR hF (hkS.mono (by intro y hy; simp at hy; subst hy; exact .head _)) (.inr (.inl rfl)) (.inl rfl), Twin.nil _, by simp, by simp; omega⟩, free_of_ob h1 4, ⟨_, cell_of_ob h1 4⟩⟩
theorem JS.cellL (h : JS W0 w bo lg r opsv kc O n ls m) : ∃ la lc, w.cell? ⟨r, 4, none⟩ = some (.slice la (ls.length : Nat) lc) ∧ r < w.heap.size ∧ ∀ w' : World, ob w' r = ob w r → w'.cell? ⟨r, 4, none⟩ = some (.slice la (ls.length : Nat) lc) := by
  obtain ⟨C, E, Lc, bl, bs, hQ, hT, hj, hE⟩ := h
  obtain ⟨Lv, Sv, h1, h2, h3, h4, h5⟩ := hQ.rl.ex
  obtain ⟨la, lc, rfl⟩ := h2.slice
  rw [nI_len] at h1
  exact ⟨la, lc, by rw [cell_of_ob h1]; rfl, ob_lt h1, fun w' e => by rw [cell_of_ob (e.trans h1)]; rfl⟩
theorem JS.facts (h : JS W0 w bo lg r opsv kc O n ls m) : ∃ x0 x1 x2 x3 la lc bv rv E, w.cell? ⟨bo, 0, none⟩ = some (.int .i64 x0) ∧ w.cell? ⟨bo, 1, none⟩ = some (.int .i64 x1) ∧ w.cell? ⟨bo, 2, none⟩ = some (.int .i64 x2) ∧ w.cell? ⟨bo, 3, none⟩ = some (.int .i64 x3) ∧ w.cell? ⟨bo, 4, none⟩ = some bv ∧
    w.cell? ⟨r, 0, none⟩ = some (.int .i64 x0) ∧ w.cell? ⟨r, 1, none⟩ = some (.int .i64 x1) ∧ w.cell? ⟨r, 2, none⟩ = some (.int .i64 x2) ∧ w.cell? ⟨r, 3, none⟩ = some (.int .i64 x3) ∧ w.cell? ⟨r, 4, none⟩ = some (.slice la (ls.length : Nat) lc) ∧ w.cell? ⟨r, 5, none⟩ = some rv ∧
    RowE evE 112 w W0.heap.size bv E ∧ RowE evE 112 w W0.heap.size rv E ∧ E.length ≤ m ∧ bo < w.heap.size ∧ r < w.heap.size ∧ ls.length ≤ m := by
  obtain ⟨C, E, Lc, bl, bs, hQ, hT, hj, hE⟩ := h
  obtain ⟨Lv, Sv, h1, h2, h3, h4, h5⟩ := hQ.rl.ex
  obtain ⟨la, lc, rfl⟩ := h2.slice
  rw [nI_len] at h1
  obtain ⟨kr, hu, hh⟩ := hQ.ul
  obtain ⟨v, b1, b2, b3⟩ := hu.bdk.bd
  exact ⟨C 0, C 1, C 2, C 3, la, lc, v, Sv, E, bd_cell b1 (q := 0) (by omega), bd_cell b1 (q := 1) (by omega), bd_cell b1 (q := 2) (by omega), bd_cell b1 (q := 3) (by omega), by rw [cell_of_ob b1]; rfl,
    ro_cell h1 (q := 0) (by omega), ro_cell h1 (q := 1) (by omega), ro_cell h1 (q := 2) (by omega), ro_cell h1 (q := 3) (by omega), by rw [cell_of_ob h1]; rfl, by rw [cell_of_ob h1]; rfl, b2, h3, by omega, ob_lt b1, ob_lt h1, by omega⟩
theorem JS.len (h : JS W0 w bo lg r opsv kc O n ls m) :
    Calls Try.prog 25 #[.pointer (some ⟨lg, 0, none⟩)] w fun e w' => e = .returned (.int .i64 (ls.length : Nat)) ∧ w' = w := by
  obtain ⟨C, E, Lc, bl, bs, hQ, hT, hj, hE⟩ := h
  rw [← hT.2.2]
  exact hQ.len
end
end Go.Proofs.Ytfljhfggjbkomaa
