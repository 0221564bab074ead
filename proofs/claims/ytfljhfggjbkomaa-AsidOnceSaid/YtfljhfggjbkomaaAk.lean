import Derived.Test.YtfljhfggjbkomaaAj
namespace Go.Proofs.Ytfljhfggjbkomaa
open Go.RowKit
set_option linter.unusedSimpArgs false
set_option linter.unusedVariables false
attribute [local go_sem] ob_alloc ob_drew ob_drewN ob_setCell ob_setBlock objSet_cells obMap_map obClock_map isMapI_map keyI_mk findI_nil findI_cons lookRes_some lookRes_none lookRes_some' lookRes_none' setBlock_alloc mapPut

def takeR (os : List Int) (bs : List Bool) : (Int × Int) × Int := match bestK os bs os.length with
  | none => ((0, 0), 7)
  | some j => (((j : Int) + 1, inc (os.getD j 0)), 0)
def takeO (os : List Int) (bs : List Bool) : List Int := match bestK os bs os.length with
  | none => os
  | some j => os.set j (inc (os.getD j 0))
def takeB (os : List Int) (bs : List Bool) : List Bool := match bestK os bs os.length with
  | none => bs
  | some j => bs.set j true
def backR (os : List Int) (bs : List Bool) (t : Int × Int) : Int := if livesB os bs t.1 t.2 then 0 else 2
def backB (os : List Int) (bs : List Bool) (t : Int × Int) : List Bool := if livesB os bs t.1 t.2 then bs.set (t.1 - 1).toNat false else bs

/-- only blocks that are none of K may have changed -/
def Off (K : List Nat) (w w' : World) : Prop := ∃ S, (∀ x, x ∈ S → x ∉ K) ∧ Keep S w w'
theorem Off.kp {K : List Nat} {b : Nat} {w w' : World} {o : Obj} (h : Off K w w') (hb : ob w b = some o) (hK : b ∈ K) : ob w' b = some o := by
  obtain ⟨S, h1, h2⟩ := h
  exact h2.kp hb (fun hx => h1 b hx hK)
theorem Off.size {K : List Nat} {w w' : World} (h : Off K w w') : w.heap.size ≤ w'.heap.size := by
  obtain ⟨S, h1, h2⟩ := h
  exact h2.size
theorem Off.base {w0 w w' : World} {K : List Nat} (h : Off K w w') (hK : ∀ x, x < w0.heap.size → x ∈ K) (hk : Keep [] w0 w) : Keep [] w0 w' := by
  obtain ⟨S, h1, h2⟩ := h
  refine hk.andThen h2 (fun x hx => .inr ?_)
  rcases Nat.lt_or_ge x w0.heap.size with h | h
  · exact absurd (hK x h) (h1 x hx)
  · exact h
theorem Far.off {K M : List Nat} {p : Nat} {w w' : World} (h : Far (K ++ M) p w w') : Off K w w' := by
  obtain ⟨S, h1, h2⟩ := h
  exact ⟨S, fun x hx hm => (h1 x hx).1 (List.mem_append_left _ hm), h2⟩
theorem Off.ofKeep {K : List Nat} {w w' : World} (h : Keep [] w w') : Off K w w' := ⟨[], by simp, h⟩

section
variable {w : World} {p r : Nat} {K : List Nat} {os : List Int} {bs : List Bool} {os2 : List Int} {bs2 : List Bool}

theorem BothP.lp (h : BothP w p r K os bs os2 bs2) : p < w.heap.size ∧ r < w.heap.size := by
  obtain ⟨g, m, g', m', h1, h2, _⟩ := h
  obtain ⟨_, _, _, _, a, _⟩ := h1
  obtain ⟨_, _, _, b, _⟩ := h2
  exact ⟨ob_lt a, ob_lt b⟩
theorem BothP.take (h : BothP w p r K os bs os2 bs2) :
    Calls Try.prog 50 #[.pointer (some ⟨p, 0, none⟩)] w fun o w' => o = .returned (.tuple #[.agg #[.int .i64 (takeR os bs).1.1, .int .i64 (takeR os bs).1.2], .int .i64 (takeR os bs).2]) ∧ BothP w' p r K (takeO os bs) (takeB os bs) os2 bs2 ∧ Off K w w' := by
  obtain ⟨g', m', hP, _, hre⟩ := h.pool
  refine (aTake w p _ h.lp.1 os bs hP).mono ?_
  intro o w' hq
  unfold takeQ at hq
  unfold takeR takeO takeB
  cases hb : bestK os bs os.length with
  | none => rw [hb] at hq; obtain ⟨rfl, hk⟩ := hq; exact ⟨rfl, h.keep hk (by simp), Off.ofKeep hk⟩
  | some j => rw [hb] at hq; obtain ⟨rfl, hP', hF⟩ := hq; exact ⟨rfl, hre _ _ _ hP' hF, Far.off hF⟩
theorem BothP.rtake (h : BothP w p r K os bs os2 bs2) :
    Calls Try.prog 51 #[.pointer (some ⟨r, 0, none⟩)] w fun o w' => o = .returned (.tuple #[.agg #[.int .i64 (takeR os2 bs2).1.1, .int .i64 (takeR os2 bs2).1.2], .int .i64 (takeR os2 bs2).2]) ∧ BothP w' p r K os bs (takeO os2 bs2) (takeB os2 bs2) ∧ Off K w w' := by
  obtain ⟨g', m', hP, _, hre⟩ := h.ref
  refine (rTake w r _ h.lp.2 os2 bs2 hP).mono ?_
  intro o w' hq
  unfold rTakeQ at hq
  unfold takeR takeO takeB
  cases hb : bestK os2 bs2 os2.length with
  | none => rw [hb] at hq; obtain ⟨rfl, hk⟩ := hq; exact ⟨rfl, h.keep hk (by simp), Off.ofKeep hk⟩
  | some j => rw [hb] at hq; obtain ⟨rfl, hP', hF⟩ := hq; exact ⟨rfl, hre _ _ _ hP' hF, Far.off hF⟩
theorem BothP.back (h : BothP w p r K os bs os2 bs2) (t : Int × Int) :
    Calls Try.prog 52 #[.pointer (some ⟨p, 0, none⟩), .agg #[.int .i64 t.1, .int .i64 t.2]] w fun o w' => o = .returned (.int .i64 (backR os bs t)) ∧ BothP w' p r K os (backB os bs t) os2 bs2 ∧ Off K w w' := by
  obtain ⟨g', m', hP, _, hre⟩ := h.pool
  refine (aBack w p _ os bs hP t.1 t.2).mono ?_
  intro o w' hq
  unfold backQ at hq
  unfold backR backB
  split at hq
  · rename_i hl
    obtain ⟨rfl, hP', hF⟩ := hq
    rw [if_pos hl, if_pos hl]
    exact ⟨rfl, hre _ _ _ hP' hF, Far.off hF⟩
  · rename_i hl
    obtain ⟨rfl, hk⟩ := hq
    rw [if_neg hl, if_neg hl]
    exact ⟨rfl, h.keep hk (by simp), Off.ofKeep hk⟩
theorem BothP.rback (h : BothP w p r K os bs os2 bs2) (t : Int × Int) :
    Calls Try.prog 53 #[.pointer (some ⟨r, 0, none⟩), .agg #[.int .i64 t.1, .int .i64 t.2]] w fun o w' => o = .returned (.int .i64 (backR os2 bs2 t)) ∧ BothP w' p r K os bs os2 (backB os2 bs2 t) ∧ Off K w w' := by
  obtain ⟨g', m', hP, _, hre⟩ := h.ref
  refine (rBack w r _ os2 bs2 hP t.1 t.2).mono ?_
  intro o w' hq
  unfold backQ at hq
  unfold backR backB
  split at hq
  · rename_i hl
    obtain ⟨rfl, hP', hF⟩ := hq
    rw [if_pos hl, if_pos hl]
    exact ⟨rfl, hre _ _ _ hP' hF, Far.off hF⟩
  · rename_i hl
    obtain ⟨rfl, hk⟩ := hq
    rw [if_neg hl, if_neg hl]
    exact ⟨rfl, h.keep hk (by simp), Off.ofKeep hk⟩
theorem BothP.lives (h : BothP w p r K os bs os2 bs2) (t : Int × Int) :
    Calls Try.prog 56 #[.pointer (some ⟨p, 0, none⟩), .agg #[.int .i64 t.1, .int .i64 t.2]] w fun o w' => o = .returned (.bool (livesB os bs t.1 t.2)) ∧ BothP w' p r K os bs os2 bs2 ∧ Off K w w' := by
  obtain ⟨g', m', hP, _, hre⟩ := h.pool
  exact (aLives w p _ os bs hP t.1 t.2).mono fun o w' ⟨h1, h2⟩ => ⟨h1, h.keep h2 (by simp), Off.ofKeep h2⟩
theorem BothP.rlives (h : BothP w p r K os bs os2 bs2) (t : Int × Int) :
    Calls Try.prog 57 #[.pointer (some ⟨r, 0, none⟩), .agg #[.int .i64 t.1, .int .i64 t.2]] w fun o w' => o = .returned (.bool (livesB os2 bs2 t.1 t.2)) ∧ BothP w' p r K os bs os2 bs2 ∧ Off K w w' := by
  obtain ⟨g', m', hP, _, hre⟩ := h.ref
  exact (rLives w r _ os2 bs2 hP t.1 t.2).mono fun o w' ⟨h1, h2⟩ => ⟨h1, h.keep h2 (by simp), Off.ofKeep h2⟩
theorem BothP.left (h : BothP w p r K os bs os2 bs2) :
    Calls Try.prog 54 #[.pointer (some ⟨p, 0, none⟩)] w fun o w' => o = .returned (.int .i64 (bs.count false : Nat)) ∧ BothP w' p r K os bs os2 bs2 ∧ Off K w w' := by
  obtain ⟨g', m', hP, _, hre⟩ := h.pool
  exact (aLeft w p _ os bs hP).mono fun o w' ⟨h1, h2⟩ => ⟨h1, h.keep h2 (by simp), Off.ofKeep h2⟩
theorem BothP.rleft (h : BothP w p r K os bs os2 bs2) :
    Calls Try.prog 55 #[.pointer (some ⟨r, 0, none⟩)] w fun o w' => o = .returned (.int .i64 (bs2.count false : Nat)) ∧ BothP w' p r K os bs os2 bs2 ∧ Off K w w' := by
  obtain ⟨g', m', hP, _, hre⟩ := h.ref
  exact (rLeft w r _ os2 bs2 hP).mono fun o w' ⟨h1, h2⟩ => ⟨h1, h.keep h2 (by simp), Off.ofKeep h2⟩
end
end Go.Proofs.Ytfljhfggjbkomaa
