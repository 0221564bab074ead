import Derived.Test.YtfljhfggjbkomaaUq
namespace Go.Proofs.Ytfljhfggjbkomaa
open Go.RowKit
set_option linter.unusedSimpArgs false
set_option linter.unusedVariables false
attribute [local go_sem] ob_alloc ob_drew ob_drewN ob_setCell ob_setBlock objSet_cells obMap_map obClock_map isMapI_map keyI_mk findI_nil findI_cons lookRes_some lookRes_none lookRes_some' lookRes_none' setBlock_alloc mapPut

theorem RowE.same {α : Type} {k : Nat} {E : Enc α k} {e : TypeId} {w w' : World} {B : Nat} {v : Value} {xs : List α} (h : RowE E e w B v xs) (hb : ∀ b, v.ownBlock = some b → ob w' b = ob w b) : RowE E e w' B v xs := by
  obtain ⟨hl, h | ⟨g, cap, cur, rfl, h1, hg, h2⟩⟩ := h
  · exact ⟨hl, .inl h⟩
  · exact ⟨hl, .inr ⟨g, cap, cur, rfl, h1, (hb g rfl).trans hg, h2⟩⟩
theorem RLw.same {W0 w w' : World} {r : Nat} {opsv : Value} {C : Nat → Int} {L : List Int} {E : List (Int × Int)} {bl bs : Option Nat} (h : RLw W0 w r opsv C L E bl bs) (h1 : ob w' r = ob w r) (h2 : ∀ b, bl = some b → ob w' b = ob w b) (h3 : ∀ b, bs = some b → ob w' b = ob w b) (hk : Keep [] W0 w') : RLw W0 w' r opsv C L E bl bs := by
  obtain ⟨Lv, Sv, q1, q2, q3, q4, q5⟩ := h.ex
  exact ⟨⟨Lv, Sv, h1.trans q1, q2.same (fun b hb => h2 b (q4.symm.trans hb)), q3.same (fun b hb => h3 b (q5.symm.trans hb)), q4, q5⟩, h.dl, h.ds, hk, h.r0⟩
theorem ob_of_row {α : Type} {k : Nat} {E : Enc α k} {e : TypeId} {w : World} {B : Nat} {v : Value} {xs : List α} (h : RowE E e w B v xs) {b : Nat} (hb : v.ownBlock = some b) : ∃ o, ob w b = some o := by
  obtain ⟨hl, h | ⟨g, cap, cur, rfl, h1, hg, h2⟩⟩ := h
  · rw [h.1] at hb; cases hb
  · simp [Value.ownBlock] at hb; subst hb; exact ⟨_, hg⟩
def HasK (kr : List (Nat × Obj)) (r : Nat) (bl bs : Option Nat) : Prop := (∃ o, (r, o) ∈ kr) ∧ (∀ b, bl = some b → ∃ o, (b, o) ∈ kr) ∧ (∀ b, bs = some b → ∃ o, (b, o) ∈ kr)
theorem RLw.kr {W0 w : World} {r : Nat} {opsv : Value} {C : Nat → Int} {L : List Int} {E : List (Int × Int)} {bl bs : Option Nat} (h : RLw W0 w r opsv C L E bl bs) : ∃ kr : List (Nat × Obj), (∀ x ∈ kr, ob w x.1 = some x.2 ∧ (x.1 = r ∨ bl = some x.1 ∨ bs = some x.1)) ∧ HasK kr r bl bs := by
  obtain ⟨Lv, Sv, q1, q2, q3, q4, q5⟩ := h.ex
  have hl : ∃ k1 : List (Nat × Obj), (∀ x ∈ k1, ob w x.1 = some x.2 ∧ bl = some x.1) ∧ ∀ b, bl = some b → ∃ o, (b, o) ∈ k1 := by
    cases hbl : bl with
    | none => exact ⟨[], by simp, by simp⟩
    | some b =>
      obtain ⟨o, ho⟩ := ob_of_row q2 (q4.trans hbl)
      refine ⟨[(b, o)], fun x hx => ?_, fun b' hb' => ⟨o, ?_⟩⟩
      · simp at hx; subst hx; exact ⟨ho, rfl⟩
      · simp at hb'; subst hb'; simp
  have hs : ∃ k1 : List (Nat × Obj), (∀ x ∈ k1, ob w x.1 = some x.2 ∧ bs = some x.1) ∧ ∀ b, bs = some b → ∃ o, (b, o) ∈ k1 := by
    cases hbs : bs with
    | none => exact ⟨[], by simp, by simp⟩
    | some b =>
      obtain ⟨o, ho⟩ := ob_of_row q3 (q5.trans hbs)
      refine ⟨[(b, o)], fun x hx => ?_, fun b' hb' => ⟨o, ?_⟩⟩
      · simp at hx; subst hx; exact ⟨ho, rfl⟩
      · simp at hb'; subst hb'; simp
  obtain ⟨k1, a1, a2⟩ := hl
  obtain ⟨k2, b1, b2⟩ := hs
  refine ⟨(r, rO C Lv Sv opsv) :: (k1 ++ k2), fun x hx => ?_, ⟨_, .head _⟩, fun b hb => ?_, fun b hb => ?_⟩
  · rcases List.mem_cons.1 hx with rfl | hx
    · exact ⟨q1, .inl rfl⟩
    · rcases List.mem_append.1 hx with hx | hx
      · exact ⟨(a1 x hx).1, .inr (.inl (a1 x hx).2)⟩
      · exact ⟨(b1 x hx).1, .inr (.inr (b1 x hx).2)⟩
  · obtain ⟨o, ho⟩ := a2 b hb
    exact ⟨o, List.mem_cons_of_mem _ (List.mem_append_left _ ho)⟩
  · obtain ⟨o, ho⟩ := b2 b hb
    exact ⟨o, List.mem_cons_of_mem _ (List.mem_append_right _ ho)⟩
/-- the board with its log, and the reference -/
structure QS (W0 w : World) (bo lg r : Nat) (opsv : Value) (kc : List (Nat × Obj)) (C : Nat → Int) (E : List (Int × Int)) (Lc : List Cl) (D : Nat → Int) (L : List Int) (F : List (Int × Int)) (bl bs : Option Nat) : Prop where
  ul : ∃ kr, UL W0 w bo lg (kr ++ kc) C E Lc ∧ HasK kr r bl bs
  rl : RLw W0 w r opsv D L F bl bs
  kd : ∀ x ∈ kc, x.1 ≠ r ∧ bl ≠ some x.1 ∧ bs ≠ some x.1
  gc : ∀ c ∈ Lc, c.good W0 bo kc
section
variable {W0 w w' : World} {bo lg r : Nat} {opsv : Value} {kc : List (Nat × Obj)} {C C' D D' : Nat → Int} {E E' F F' : List (Int × Int)} {Lc Lc' : List Cl} {L L' : List Int} {bl bs bl' bs' : Option Nat}
theorem QS.byU {kr : List (Nat × Obj)} (h : QS W0 w bo lg r opsv kc C E Lc D L F bl bs) (hu : UL W0 w bo lg (kr ++ kc) C E Lc) (hh : HasK kr r bl bs) (hu' : UL W0 w' bo lg (kr ++ kc) C' E' Lc') (hg : ∀ c ∈ Lc', c.good W0 bo kc) : QS W0 w' bo lg r opsv kc C' E' Lc' D L F bl bs := by
  have same : ∀ b, (∃ o, (b, o) ∈ kr) → ob w' b = ob w b := fun b ⟨o, ho⟩ => (hu'.obk (List.mem_append_left _ ho)).trans (hu.obk (List.mem_append_left _ ho)).symm
  exact ⟨⟨kr, hu', hh⟩, h.rl.same (same r hh.1) (fun b hb => same b (hh.2.1 b hb)) (fun b hb => same b (hh.2.2 b hb)) hu'.kp, h.kd, hg⟩
theorem QS.byR (h : QS W0 w bo lg r opsv kc C E Lc D L F bl bs) (hr : RLw W0 w' r opsv D' L' F' bl' bs') (hk : Keep (r :: bs.toList) w w') (h1 : NewB w bl bl') (h2 : NewB w bs bs') : QS W0 w' bo lg r opsv kc C E Lc D' L' F' bl' bs' := by
  obtain ⟨kr, hu, hh⟩ := h.ul
  obtain ⟨kr', q1, q2⟩ := hr.kr
  have hkl : ∀ x ∈ kc, x.1 < w.heap.size := fun x hx => ob_lt (hu.obk (b := x.1) (o := x.2) (List.mem_append_right _ hx))
  have hkc : ∀ x ∈ kc, x.1 ≠ r ∧ bl' ≠ some x.1 ∧ bs' ≠ some x.1 := fun x hx => by
    obtain ⟨a1, a2, a3⟩ := h.kd x hx
    have := hkl x hx
    refine ⟨a1, fun e => ?_, fun e => ?_⟩
    · rcases h1 with g | g | ⟨b, g, hb⟩
      · exact a2 (g.symm.trans e)
      · rw [g] at e; cases e
      · rw [g] at e; simp at e; omega
    · rcases h2 with g | g | ⟨b, g, hb⟩
      · exact a3 (g.symm.trans e)
      · rw [g] at e; cases e
      · rw [g] at e; simp at e; omega
  refine ⟨⟨kr', hu.by hk (fun y hy => ?_) (fun x hx => ?_) (fun c hc => ⟨(h.gc c hc).1.mono (fun x hx => List.mem_append_right _ hx), (h.gc c hc).2⟩), q2⟩, hr, hkc, h.gc⟩
  · rcases List.mem_cons.1 hy with rfl | hy
    · obtain ⟨o, ho⟩ := hh.1
      exact ⟨⟨o, List.mem_append_left _ ho⟩, h.rl.r0⟩
    · simp only [Option.mem_toList] at hy
      obtain ⟨o, ho⟩ := hh.2.2 y hy
      exact ⟨⟨o, List.mem_append_left _ ho⟩, (h.rl.blk.2 y hy).1⟩
  · rcases List.mem_append.1 hx with hx | hx
    · obtain ⟨g1, g2⟩ := q1 x hx
      refine .inr ⟨g1, ?_⟩
      rcases g2 with g2 | g2 | g2
      · obtain ⟨o, ho⟩ := hh.1
        exact .inl ⟨o, by rw [g2]; exact List.mem_append_left _ ho⟩
      · rcases h1 with g | g | ⟨b, g, hb⟩
        · obtain ⟨o, ho⟩ := hh.2.1 x.1 (g.symm.trans g2)
          exact .inl ⟨o, List.mem_append_left _ ho⟩
        · rw [g] at g2; cases g2
        · rw [g] at g2; simp at g2; exact .inr (by omega)
      · rcases h2 with g | g | ⟨b, g, hb⟩
        · obtain ⟨o, ho⟩ := hh.2.2 x.1 (g.symm.trans g2)
          exact .inl ⟨o, List.mem_append_left _ ho⟩
        · rw [g] at g2; cases g2
        · rw [g] at g2; simp at g2; exact .inr (by omega)
    · obtain ⟨a1, a2, a3⟩ := h.kd x hx
      refine .inl ⟨List.mem_append_right _ hx, fun hm => ?_⟩
      rcases List.mem_cons.1 hm with e | hm
      · exact a1 e
      · simp only [Option.mem_toList] at hm
        exact a3 hm
theorem QS.new (h : QS W0 w bo lg r opsv kc C E Lc D L F bl bs) (hk : Keep [] w w') : QS W0 w' bo lg r opsv kc C E Lc D L F bl bs := by
  obtain ⟨kr, hu, hh⟩ := h.ul
  exact ⟨⟨kr, hu.new hk, hh⟩, h.rl.new hk, h.kd, h.gc⟩
theorem QS.alloc (h : QS W0 w bo lg r opsv kc C E Lc D L F bl bs) (cs : Array Value) (t : TypeId) : QS W0 (w.alloc (.cells cs t)) bo lg r opsv ((w.heap.size, .cells cs t (0, 0)) :: kc) C E Lc D L F bl bs := by
  obtain ⟨kr, hu, hh⟩ := h.ul
  have hr := h.rl
  refine ⟨⟨kr, ?_, hh⟩, hr.new ((Keep.refl _ _).alloc _), fun x hx => ?_, fun c hc => ⟨(h.gc c hc).1.mono (fun x hx => List.mem_cons_of_mem _ hx), (h.gc c hc).2⟩⟩
  · refine (hu.alloc cs t).by (Keep.refl [] _) (by simp) (fun x hx => .inl ⟨?_, by simp⟩) (fun c hc => ⟨(h.gc c hc).1.mono (fun x hx => List.mem_append_right _ (List.mem_cons_of_mem _ hx)), (h.gc c hc).2⟩)
    simp only [List.mem_append, List.mem_cons] at hx ⊢
    rcases hx with hx | hx | hx
    · exact .inr (.inl hx)
    · exact .inl hx
    · exact .inr (.inr hx)
  · rcases List.mem_cons.1 hx with rfl | hx
    · have g1 := hr.lt
      refine ⟨by show w.heap.size ≠ r; omega, fun e => ?_, fun e => ?_⟩
      · have := (hr.blk.1 _ e).2
        exact absurd this (by show ¬ w.heap.size < w.heap.size; omega)
      · have := (hr.blk.2 _ e).2
        exact absurd this (by show ¬ w.heap.size < w.heap.size; omega)
    · exact h.kd x hx
theorem QS.obk (h : QS W0 w bo lg r opsv kc C E Lc D L F bl bs) {b : Nat} {o : Obj} (hb : (b, o) ∈ kc) : ob w b = some o := by
  obtain ⟨kr, hu, hh⟩ := h.ul
  exact hu.obk (List.mem_append_right _ hb)
theorem QS.do_ok (h : QS W0 w bo lg r opsv kc C E Lc D L F bl bs) {dov : Value} {fC : (Nat → Int) → (Nat → Int)} {ev : List (Int × Int)} (hdo : RunsTo W0 bo kc dov (.int .i64 0) fC ev) (hev : ev.length ≤ 1) (c : Cl) (hc : c.good W0 bo kc) (hL : Lc.length ≤ 1000) (hE : E.length ≤ 80000) :
    Calls Try.prog 15 #[.pointer (some ⟨lg, 0, none⟩), dov, c.clo] w fun e w' => e = .returned (.int .i64 0) ∧ QS W0 w' bo lg r opsv kc (fC C) (E ++ ev) (Lc ++ [c]) D L F bl bs := by
  obtain ⟨kr, hu, hh⟩ := h.ul
  refine (uDo_ok hu (hdo.mono (fun x hx => List.mem_append_right _ hx)) hev c ⟨hc.1.mono (fun x hx => List.mem_append_right _ hx), hc.2⟩ hL hE).mono ?_
  rintro e w' ⟨g1, g2⟩
  refine ⟨g1, h.byU hu hh g2 (fun d hd => ?_)⟩
  rcases List.mem_append.1 hd with hd | hd
  · exact h.gc d hd
  · simp at hd; subst hd; exact hc
theorem QS.do_no (h : QS W0 w bo lg r opsv kc C E Lc D L F bl bs) {dov back : Value} {x : Int} {fC : (Nat → Int) → (Nat → Int)} {ev : List (Int × Int)} (hdo : RunsTo W0 bo kc dov (.int .i64 x) fC ev) (hx : x ≠ 0) (hev : ev.length ≤ 1) (hL : Lc.length ≤ 1000) (hE : E.length ≤ 80000) :
    Calls Try.prog 15 #[.pointer (some ⟨lg, 0, none⟩), dov, back] w fun e w' => e = .returned (.int .i64 x) ∧ QS W0 w' bo lg r opsv kc (rollC (fC C) Lc) (E ++ ev ++ rollE Lc) [] D L F bl bs := by
  obtain ⟨kr, hu, hh⟩ := h.ul
  refine (uDo_no hu (back := back) (hdo.mono (fun x hx => List.mem_append_right _ hx)) hx hev hL hE).mono ?_
  rintro e w' ⟨g1, g2⟩
  exact ⟨g1, h.byU hu hh g2 (by simp)⟩
theorem QS.roll (h : QS W0 w bo lg r opsv kc C E Lc D L F bl bs) (hL : Lc.length ≤ 1000) (hE : E.length ≤ 90000) :
    Calls Try.prog 21 #[.pointer (some ⟨lg, 0, none⟩)] w fun e w' => e = .returned (.int .i64 (Lc.length : Nat)) ∧ QS W0 w' bo lg r opsv kc (rollC C Lc) (E ++ rollE Lc) [] D L F bl bs := by
  obtain ⟨kr, hu, hh⟩ := h.ul
  refine (uRoll hu hL hE).mono ?_
  rintro e w' ⟨g1, g2⟩
  exact ⟨g1, h.byU hu hh g2 (by simp)⟩
theorem QS.keepL (h : QS W0 w bo lg r opsv kc C E Lc D L F bl bs) :
    Calls Try.prog 23 #[.pointer (some ⟨lg, 0, none⟩)] w fun e w' => e = .returned (.int .i64 (Lc.length : Nat)) ∧ QS W0 w' bo lg r opsv kc C E [] D L F bl bs ∧ ob w' r = ob w r := by
  obtain ⟨kr, hu, hh⟩ := h.ul
  refine (uKeep hu).mono ?_
  rintro e w' ⟨g1, g2⟩
  obtain ⟨o, ho⟩ := hh.1
  exact ⟨g1, h.byU hu hh g2 (by simp), (g2.obk (List.mem_append_left _ ho)).trans (hu.obk (List.mem_append_left _ ho)).symm⟩
theorem QS.len (h : QS W0 w bo lg r opsv kc C E Lc D L F bl bs) :
    Calls Try.prog 25 #[.pointer (some ⟨lg, 0, none⟩)] w fun e w' => e = .returned (.int .i64 (Lc.length : Nat)) ∧ w' = w := by
  obtain ⟨kr, hu, hh⟩ := h.ul
  exact uLen hu
theorem QS.kp (h : QS W0 w bo lg r opsv kc C E Lc D L F bl bs) : Keep [] W0 w := h.rl.kp
end
end Go.Proofs.Ytfljhfggjbkomaa
