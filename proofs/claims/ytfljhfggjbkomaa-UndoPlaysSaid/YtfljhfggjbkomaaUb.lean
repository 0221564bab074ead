import Derived.Test.YtfljhfggjbkomaaUa
import Derived.Defers
import Derived.Laws.EntriesVeiled
namespace Go.Proofs.Ytfljhfggjbkomaa
open Go.RowKit
set_option linter.unusedSimpArgs false
set_option linter.unusedVariables false
attribute [local go_sem] ob_alloc ob_drew ob_drewN ob_setCell ob_setBlock objSet_cells obMap_map obClock_map isMapI_map keyI_mk findI_nil findI_cons lookRes_some lookRes_none lookRes_some' lookRes_none' setBlock_alloc mapPut

/-- a closure that turns the board -/
def RunsTo (W0 : World) (bo : Nat) (cb : List (Nat × Obj)) (clo : Value) (r : Value) (fC : (Nat → Int) → (Nat → Int)) (ev : List (Int × Int)) : Prop :=
  ∃ N caps, clo = .func (.func N) #[] caps ∧ (∀ args w, (callFunc N args).run Try.prog w = .ok (.enter N args) w) ∧ ∀ w kn C E, (∀ x ∈ cb, x ∈ kn) → BDk W0 w bo kn C E → E.length ≤ 100000 →
    Calls Try.prog N caps w fun e w' => e = .returned r ∧ BDk W0 w' bo kn (fC C) (E ++ ev)
theorem RunsTo.mono {W0 : World} {bo : Nat} {cb cb' : List (Nat × Obj)} {clo r : Value} {fC : (Nat → Int) → (Nat → Int)} {ev : List (Int × Int)} (h : RunsTo W0 bo cb clo r fC ev) (hs : ∀ x ∈ cb, x ∈ cb') : RunsTo W0 bo cb' clo r fC ev := by
  obtain ⟨N, caps, h1, h2, h3⟩ := h
  exact ⟨N, caps, h1, h2, fun w kn C E hk => h3 w kn C E (fun x hx => hk x (hs x hx))⟩
structure Cl where
  clo : Value
  fC : (Nat → Int) → (Nat → Int)
  ev : List (Int × Int)
def Cl.good (W0 : World) (bo : Nat) (kn : List (Nat × Obj)) (c : Cl) : Prop := RunsTo W0 bo kn c.clo (.tuple #[]) c.fC c.ev ∧ c.ev.length ≤ 1
def rollC (C : Nat → Int) : List Cl → (Nat → Int)
  | [] => C
  | c :: L => c.fC (rollC C L)
def rollE : List Cl → List (Int × Int)
  | [] => []
  | c :: L => rollE L ++ c.ev
theorem rollE_len {L : List Cl} (h : ∀ c ∈ L, c.ev.length ≤ 1) : (rollE L).length ≤ L.length := by
  induction L with
  | nil => simp [rollE]
  | cons c L ih =>
    have := h c (by simp)
    have := ih (fun d hd => h d (by simp [hd]))
    simp only [rollE, List.length_append, List.length_cons]; omega

/-- a row of the call's own, by what lies in its block -/
structure RowK (B : Nat) (v : Value) (xs : List Value) (rk : List (Nat × Obj)) : Prop where
  owns : ∀ w : World, (∀ x ∈ rk, ob w x.1 = some x.2) → w.ownsRow B 1 1 v xs.length xs
  blk : ∀ x ∈ rk, v.ownBlock = some x.1
  cov : ∀ b, v.ownBlock = some b → ∃ o, (b, o) ∈ rk
theorem rowK_of {w : World} {B n : Nat} {v : Value} {xs : List Value} (h : w.ownsRow B 1 1 v n xs) : ∃ rk, RowK B v xs rk ∧ (∀ x ∈ rk, ob w x.1 = some x.2) ∧ n = xs.length := by
  obtain ⟨hl, h | ⟨g, cap, cur, rfl, hb, hg, hn, hm, hc, ht⟩⟩ := h
  · obtain ⟨rfl, rfl⟩ := h
    have : xs = [] := List.eq_nil_of_length_eq_zero (by omega)
    subst this
    exact ⟨[], ⟨fun w _ => ⟨rfl, .inl ⟨rfl, rfl⟩⟩, by simp, fun b hb => by cases hb⟩, by simp, rfl⟩
  · obtain rfl : n = xs.length := by omega
    refine ⟨[(g, .cells cur 1 (0, 0))], ⟨fun w hw => ⟨by omega, .inr ⟨g, cap, cur, rfl, hb, hw (g, .cells cur 1 (0, 0)) (by simp), hn, hm, hc, ht⟩⟩, ?_, ?_⟩, ?_, rfl⟩
    · intro x hx; simp at hx; subst hx; rfl
    · intro b hb; simp [Value.ownBlock] at hb; subst hb; exact ⟨_, by simp; rfl⟩
    · intro x hx; simp at hx; subst hx; exact hg
theorem RowK.nil (B : Nat) : RowK B (.slice none 0 0) [] [] := ⟨fun w _ => ⟨rfl, .inl ⟨rfl, rfl⟩⟩, by simp, fun b hb => by cases hb⟩

def lgO (v : Value) : Obj := .cells #[v] 115 (0, 0)
structure UL (W0 w : World) (bo lg : Nat) (kn : List (Nat × Obj)) (C : Nat → Int) (E : List (Int × Int)) (L : List Cl) : Prop where
  ex : ∃ v rk, RowK W0.heap.size v (L.map (·.clo)) rk ∧ BDk W0 w bo ((lg, lgO v) :: (rk ++ kn)) C E ∧ (∀ x ∈ rk ++ kn, x.1 ≠ lg) ∧ (∀ x ∈ rk, ∀ y ∈ kn, y.1 ≠ x.1)
  l0 : W0.heap.size ≤ lg
  go : ∀ c ∈ L, c.good W0 bo kn
theorem mem_lg {lg : Nat} {v : Value} {rk kn : List (Nat × Obj)} {x : Nat × Obj} (hx : x ∈ kn) : x ∈ (lg, lgO v) :: (rk ++ kn) := List.mem_cons_of_mem _ (List.mem_append_right _ hx)
theorem owns_at {w : World} {B : Nat} {v : Value} {xs : List Value} (h : w.ownsRow B 1 1 v xs.length xs) {i : Nat} {x : Value} (hi : xs[i]? = some x) : ∃ g cap, v = .slice (some ⟨g, 0, none⟩) xs.length cap ∧ xs.length ≤ cap ∧ w.cell? ⟨g, i, none⟩ = some x := by
  obtain ⟨hl, h | ⟨g, cap, cur, rfl, hb, hg, hn, hm, hc, ht⟩⟩ := h
  · have := (List.getElem?_eq_some_iff.1 hi).1; omega
  · refine ⟨g, cap, rfl, hn, ?_⟩
    rw [cell_of_ob (w := w) hg]
    rw [← ht, List.getElem?_take] at hi
    split at hi
    · simpa using hi
    · cases hi

/-! ### New, Len, Keep, Roll -/
set_option maxRecDepth 100000 in
set_option maxHeartbeats 400000 in
theorem uNew (w : World) : Calls Try.prog 14 #[] w fun e w' => e = .returned (.pointer (some ⟨w.heap.size, 0, none⟩)) ∧ w' = w.alloc (lgO (.slice none 0 0)) := by
  unfold lgO
  go_enter Try.func14, Try.ntmps14
  go_wp2
  go_ret
  exact ⟨rfl, rfl⟩
theorem UL.start {W0 w : World} {bo : Nat} {kn : List (Nat × Obj)} {C : Nat → Int} {E : List (Int × Int)} (h : BDk W0 w bo kn C E) : UL W0 (w.alloc (lgO (.slice none 0 0))) bo w.heap.size kn C E [] :=
  ⟨⟨_, [], RowK.nil _, h.alloc #[.slice none 0 0] 115, fun x hx => by have := ob_lt (h.ow x (by simpa using hx)).1; omega, by simp⟩, h.kp.size, by simp⟩
set_option maxRecDepth 100000 in
set_option maxHeartbeats 400000 in
theorem uLen {W0 w : World} {bo lg : Nat} {kn : List (Nat × Obj)} {C : Nat → Int} {E : List (Int × Int)} {L : List Cl} (h : UL W0 w bo lg kn C E L) :
    Calls Try.prog 25 #[.pointer (some ⟨lg, 0, none⟩)] w fun e w' => e = .returned (.int .i64 (L.length : Nat)) ∧ w' = w := by
  obtain ⟨v, rk, h1, h2, _⟩ := h.ex
  have c0 := cell_of_ob (h2.obk (.head _)) 0
  obtain ⟨va, vc, rfl⟩ := owns_slice (h1.owns w (fun x hx => (h2.ow x (List.mem_cons_of_mem _ (List.mem_append_left _ hx))).1))
  simp only [lgO, List.getElem?_toArray, List.getElem?_cons_zero, List.length_map] at c0
  generalize L.length = n at *
  clear h h1 h2
  go_enter Try.func25, Try.ntmps25
  go_wp2
  go_ret
  exact ⟨rfl, rfl⟩
theorem UL.forget {W0 w : World} {bo lg : Nat} {kn : List (Nat × Obj)} {C : Nat → Int} {E : List (Int × Int)} {v : Value} {rk : List (Nat × Obj)} (h : BDk W0 w bo ((lg, lgO v) :: (rk ++ kn)) C E) (h1 : ∀ x ∈ rk ++ kn, x.1 ≠ lg) (h0 : W0.heap.size ≤ lg) :
    UL W0 (w.setCell ⟨lg, 0, none⟩ (.slice none 0 0)) bo lg kn C E [] :=
  ⟨⟨_, [], RowK.nil _, h.set (.head _) 0 (.slice none 0 0) (kn' := [] ++ kn) (fun x hx => ⟨mem_lg (by simpa using hx), h1 x (List.mem_append_right _ (by simpa using hx))⟩) h0, fun x hx => h1 x (List.mem_append_right _ (by simpa using hx)), by simp⟩, h0, by simp⟩
set_option maxRecDepth 100000 in
set_option maxHeartbeats 400000 in
theorem uKeep {W0 w : World} {bo lg : Nat} {kn : List (Nat × Obj)} {C : Nat → Int} {E : List (Int × Int)} {L : List Cl} (h : UL W0 w bo lg kn C E L) :
    Calls Try.prog 23 #[.pointer (some ⟨lg, 0, none⟩)] w fun e w' => e = .returned (.int .i64 (L.length : Nat)) ∧ UL W0 w' bo lg kn C E [] := by
  obtain ⟨v, rk, h1, h2, h3, _⟩ := h.ex
  have o0 := h2.obk (.head _)
  have c0 := cell_of_ob o0 0
  have f0 := free_of_ob o0 0
  have HU := Lib.hid (UL.forget h2 h3 h.l0)
  obtain ⟨va, vc, rfl⟩ := owns_slice (h1.owns w (fun x hx => (h2.ow x (List.mem_cons_of_mem _ (List.mem_append_left _ hx))).1))
  simp only [lgO, List.getElem?_toArray, List.getElem?_cons_zero, List.length_map] at c0
  generalize L.length = n at *
  clear h h1 h2 h3 o0
  go_enter Try.func23, Try.ntmps23
  go_wp2
  go_ret
  exact ⟨rfl, HU.out⟩
set_option maxRecDepth 100000 in
set_option maxHeartbeats 800000 in
theorem uRoll {W0 w : World} {bo lg : Nat} {kn : List (Nat × Obj)} {C : Nat → Int} {E : List (Int × Int)} {L : List Cl} (h : UL W0 w bo lg kn C E L) (hL : L.length ≤ 1000) (hE : E.length ≤ 90000) :
    Calls Try.prog 21 #[.pointer (some ⟨lg, 0, none⟩)] w fun e w' => e = .returned (.int .i64 (L.length : Nat)) ∧ UL W0 w' bo lg kn (rollC C L) (E ++ rollE L) [] := by
  obtain ⟨v, rk, h1, h2, h3, h4⟩ := h.ex
  have hgo := h.go
  have hl0 := h.l0
  have c0 := cell_of_ob (h2.obk (.head _)) 0
  obtain ⟨va, vc, rfl⟩ := owns_slice (h1.owns w (fun x hx => (h2.ow x (List.mem_cons_of_mem _ (List.mem_append_left _ hx))).1))
  simp only [lgO, List.getElem?_toArray, List.getElem?_cons_zero, List.length_map] at c0
  obtain ⟨n, hn⟩ : ∃ n, L.length = n := ⟨_, rfl⟩
  rw [List.length_map, hn] at h1 h2
  rw [hn] at c0 hL ⊢
  have HH := Lib.hid (And.intro h1 (And.intro h2 (And.intro h3 (And.intro hgo (And.intro hn hl0)))))
  clear h h1 h2 h3 h4 hgo hn hl0
  go_enter Try.func21, Try.ntmps21
  go_wp2_with fail
  go_loopg [4] n (fun gn i wr => ∃ j : Nat, i = .int .i64 ((j : Int) - 1) ∧ j ≤ n ∧ gn = j ∧ BDk W0 wr bo ((lg, lgO (.slice va n vc)) :: (rk ++ kn)) (rollC C (L.drop j)) (E ++ rollE (L.drop j)))
  case atStart => exact ⟨n, rfl, by omega, rfl, by rw [List.drop_eq_nil_of_le (by have := HH.out.2.2.2.2.1; omega)]; simp only [rollC, rollE, List.append_nil]; exact HH.out.2.1⟩
  case round =>
    clear c0
    obtain ⟨j, rfl, hjn, hgj, hB⟩ := hrel
    obtain rfl : j = gk := hgj.symm
    have c0 := cell_of_ob (hB.obk (.head _)) 0
    simp only [lgO, List.getElem?_toArray, List.getElem?_cons_zero] at c0
    cases j with
    | zero =>
      have f0 := free_of_ob (hB.obk (.head _)) 0
      have HU := Lib.hid (UL.forget hB HH.out.2.2.1 HH.out.2.2.2.2.2)
      clear hB
      go_wp2_with fail
      go_ret
      exact ⟨rfl, HU.out⟩
    | succ j =>
      have hjl : j < L.length := by have := HH.out.2.2.2.2.1; omega
      obtain ⟨c, hc⟩ : ∃ c, L[j]? = some c := ⟨_, List.getElem?_eq_getElem hjl⟩
      have hd : L.drop j = c :: L.drop (j + 1) := by
        obtain ⟨g1, g2⟩ := List.getElem?_eq_some_iff.1 hc
        rw [← g2]; exact List.drop_eq_getElem_cons g1
      have hown := HH.out.1.owns wr (fun x hx => (hB.ow x (List.mem_cons_of_mem _ (List.mem_append_left _ hx))).1)
      obtain ⟨g, cap, e1, hcap, hcell⟩ := owns_at hown (i := j) (x := c.clo) (by rw [List.getElem?_map, hc]; rfl)
      simp only [List.length_map, HH.out.2.2.2.2.1, Value.slice.injEq, true_and] at e1 hcap
      obtain ⟨rfl, rfl⟩ := e1
      obtain ⟨⟨N, caps, hclo, hN, hrun⟩, hev⟩ := HH.out.2.2.2.1 c (List.mem_of_getElem? hc)
      rw [hclo] at hcell
      have hlen : (E ++ rollE (L.drop (j + 1))).length ≤ 100000 := by
        have h1 := rollE_len (L := L.drop (j + 1)) (fun d hd => (HH.out.2.2.2.1 d (List.mem_of_mem_drop hd)).2)
        rw [List.length_append]
        have := List.length_drop (i := j + 1) (l := L)
        have := HH.out.2.2.2.2.1
        omega
      have hcall := hrun wr _ _ _ (fun x hx => mem_lg hx) hB hlen
      have HD : Hid (rollC C (L.drop j) = c.fC (rollC C (L.drop (j + 1))) ∧ E ++ rollE (L.drop j) = E ++ rollE (L.drop (j + 1)) ++ c.ev) := Lib.hid (by rw [hd]; exact ⟨rfl, by simp [rollE]⟩)
      have hj1 : ((j + 1 : Nat) : Int) - 1 = (j : Int) := by omega
      have hj0 : (0 : Int) ≤ (j : Int) := by omega
      have hj2 : (j : Int) < (n : Int) := by omega
      clear hB hown hclo hrun hlen hd hc hjl hev
      go_wp2_with fail
      refine hcall.mono ?_
      rintro _ w2 ⟨rfl, hB2⟩
      have H2 := Lib.hid hB2
      clear hcall hB2 hcell c0 hN
      go_wp2_with fail
      go_roundg j
      case measure => omega
      case rel => exact ⟨j, rfl, by omega, rfl, by rw [HD.out.1, HD.out.2]; exact H2.out⟩
end Go.Proofs.Ytfljhfggjbkomaa
