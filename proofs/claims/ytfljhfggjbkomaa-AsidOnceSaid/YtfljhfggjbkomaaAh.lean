import Derived.Test.YtfljhfggjbkomaaAg
namespace Go.Proofs.Ytfljhfggjbkomaa
open Go.RowKit
set_option linter.unusedSimpArgs false
set_option linter.unusedVariables false
attribute [local go_sem] ob_alloc ob_drew ob_drewN ob_setCell ob_setBlock objSet_cells obMap_map obClock_map isMapI_map keyI_mk findI_nil findI_cons lookRes_some lookRes_none lookRes_some' lookRes_none' setBlock_alloc mapPut
attribute [local go_sem ↓] eql93 neq93 eql98 neq98

theorem PoolAt.addL {w : World} {p : Nat} {L L' : List Nat} {os : List Int} {bs : List Bool} (h : PoolAt w p L os bs) (hL : ∀ x, x ∈ L' → x ∈ L ∨ w.heap.size ≤ x) : PoolAt w p L' os bs := by
  obtain ⟨g, m, l, hg, hm, h1, h2, h3, h4, h5, h6, h7⟩ := h
  refine ⟨g, m, l, fun hx => ?_, fun hx => ?_, h1, h2, h3, h4, h5, h6, h7⟩
  · rcases hL g hx with a | a
    · exact hg a
    · have := ob_lt h5; omega
  · rcases hL m hx with a | a
    · exact hm a
    · have := h6.lt; omega
theorem RPoolAt.addL {w : World} {p : Nat} {L L' : List Nat} {os : List Int} {bs : List Bool} (h : RPoolAt w p L os bs) (hL : ∀ x, x ∈ L' → x ∈ L ∨ w.heap.size ≤ x) : RPoolAt w p L' os bs := by
  obtain ⟨g, m, hg, hm, h1, h2, h3, h4, h5, h6, h7⟩ := h
  refine ⟨g, m, fun hx => ?_, fun hx => ?_, h1, h2, h3, h4, h5, h6, h7⟩
  · rcases hL g hx with a | a
    · exact hg a
    · have := ob_lt h5; omega
  · rcases hL m hx with a | a
    · exact hm a
    · have := ob_lt h6; omega

theorem takeQ_some {os : List Int} {bs : List Bool} {p : Nat} {L : List Nat} {w : World} {o : Ending} {w' : World} {j : Nat} (h : takeQ os bs p L w o w') (hj : bestK os bs os.length = some j) :
    o = .returned (.tuple #[tagV ((j : Int) + 1, inc (os.getD j 0)), .int .i64 0]) ∧ PoolAt w' p L (os.set j (inc (os.getD j 0))) (bs.set j true) ∧ ∃ S, (∀ x, x ∈ S → x ∉ L ∧ x ≠ p) ∧ Keep S w w' := by
  unfold takeQ at h; rw [hj] at h; exact h
theorem takeQ_none {os : List Int} {bs : List Bool} {p : Nat} {L : List Nat} {w : World} {o : Ending} {w' : World} (h : takeQ os bs p L w o w') (hj : bestK os bs os.length = none) :
    o = .returned (.tuple #[tagV (0, 0), .int .i64 7]) ∧ Keep [] w w' := by
  unfold takeQ at h; rw [hj] at h; exact h

/-- only blocks that are none of those, and not the pool's own, may have changed -/
def Far (L : List Nat) (p : Nat) (w w' : World) : Prop := ∃ S, (∀ x, x ∈ S → x ∉ L ∧ x ≠ p) ∧ Keep S w w'
theorem Far.base {B : Nat} {L : List Nat} {p : Nat} {w0 w w' : World} (h : Far (List.range B ++ L) p w w') (hB : B = w0.heap.size) (hk : Keep [] w0 w) : Keep [] w0 w' := by
  obtain ⟨S, h1, h2⟩ := h
  refine hk.andThen h2 (fun x hx => .inr ?_)
  have := (h1 x hx).1
  simp only [List.mem_append, List.mem_range, not_or] at this
  omega
theorem Far.kp {L : List Nat} {p b : Nat} {w w' : World} {o : Obj} (h : Far L p w w') (hb : ob w b = some o) (hL : b ∈ L) : ob w' b = some o := by
  obtain ⟨S, h1, h2⟩ := h
  exact h2.kp hb (fun hx => (h1 b hx).1 hL)
theorem Far.size {L : List Nat} {p : Nat} {w w' : World} (h : Far L p w w') : w.heap.size ≤ w'.heap.size := by
  obtain ⟨S, h1, h2⟩ := h
  exact h2.size

set_option maxRecDepth 100000 in
set_option maxHeartbeats 2000000 in
theorem awake10 (w : World) : Calls Try.prog 47 #[] w fun o w' => o = .returned (.bool true) ∧ Keep [] w w' := by
  go_enter Try.func47, Try.ntmps47
  go_wp2_with fail
  refine (aNew_ok 1 (by omega) (by omega) w (List.range w.heap.size ++ []) (by simp; omega)).mono ?_
  rintro _ w1 ⟨rfl, hP1, hk1, hs1⟩
  obtain ⟨p, hp⟩ : ∃ p, p = w.heap.size + 2 := ⟨_, rfl⟩
  rw [← hp] at hP1 ⊢
  have hp1 : p < w1.heap.size := by omega
  have hpw : w.heap.size ≤ p := by omega
  clear hp hs1
  go_wp2_with fail
  refine (aTake w1 p _ hp1 _ _ hP1).mono ?_
  intro o2 w2 h2
  obtain ⟨rfl, hP2, hF2⟩ := takeQ_some (j := 0) h2 rfl
  have hk02 : Keep [] w w2 := Far.base hF2 rfl hk1
  have hs2 := Far.size hF2
  have hb2 := hk02.size
  have hP2' : PoolAt (w2.alloc (.cells #[.int .i64 1, .int .i64 1] 93)) p (List.range w.heap.size ++ [w2.heap.size]) [1] [true] :=
    ((show PoolAt w2 p _ [1] [true] from hP2).addL (L' := List.range w.heap.size ++ [w2.heap.size]) (by simp; omega)).keep (S := []) ((Keep.refl _ _).alloc _) (by simp) (by simp)
  have ea := al_new w2 (.cells #[.int .i64 1, .int .i64 1] 93) rfl
  have hk02' : Keep [] w (w2.alloc (.cells #[.int .i64 1, .int .i64 1] 93)) := hk02.alloc _
  have hsz2 : (w2.alloc (.cells #[.int .i64 1, .int .i64 1] 93)).heap.size = w2.heap.size + 1 := by simp
  have hi : inc 0 = 1 := by decide
  have hi1 : inc 1 = 2 := by decide
  simp only [tagV, List.getD, List.replicate, List.getElem?_cons_zero, Option.getD_some, hi, Int.ofNat_zero, Int.zero_add]
  clear h2
  go_wp2_with fail
  have hpa : p ≠ w2.heap.size := by omega
  generalize ha : w2.heap.size = a at *
  generalize w2.alloc (.cells #[.int .i64 1, .int .i64 1] 93) = v2 at *
  refine (aTake v2 p _ (by omega) _ _ hP2').mono ?_
  intro o3 w3 h3
  obtain ⟨rfl, hk3⟩ := takeQ_none h3 rfl
  have hP3 := (hP2'.keep (hk3.alloc (.cells #[.int .i64 0, .int .i64 0] 93)) (by simp) (by simp))
  have ea3 := al (hk3.kp ea (by simp)) (o' := .cells #[.int .i64 0, .int .i64 0] 93)
  have hk03 : Keep [] w (w3.alloc (.cells #[.int .i64 0, .int .i64 0] 93)) := (hk02'.trans hk3).alloc _
  have ca3 := cell_of_ob (hk3.kp ea (by simp))
  have la3 := ob_lt (hk3.kp ea (by simp))
  simp only [tagV]
  clear h3 hP2 hF2
  go_wp2_with fail
  generalize w3.alloc (.cells #[.int .i64 0, .int .i64 0] 93) = v3 at *
  refine (aBack v3 p _ _ _ hP3 1 1).mono ?_
  intro o4 w4 h4
  unfold backQ at h4
  rw [if_pos (by decide)] at h4
  obtain ⟨rfl, hP4, hF4⟩ := h4
  have hk04 : Keep [] w w4 := Far.base hF4 rfl hk03
  have hs4 := Far.size hF4
  have ea4 := Far.kp hF4 ea3 (by simp)
  have lp4 : p < w4.heap.size := by obtain ⟨_, _, _, _, _, _, _, _, h, _⟩ := hP4; exact ob_lt h
  go_wp2_with fail
  refine (aTake w4 p _ lp4 _ _ hP4).mono ?_
  intro o5 w5 h5
  obtain ⟨rfl, hP5, hF5⟩ := takeQ_some (j := 0) h5 rfl
  have hk05 : Keep [] w w5 := Far.base hF5 rfl hk04
  have ea5 := Far.kp hF5 ea4 (by simp)
  have eb5 := al_new w5 (.cells #[.int .i64 1, .int .i64 2] 93) rfl
  have ca5 := cell_of_ob (al ea5 (o' := .cells #[.int .i64 1, .int .i64 2] 93))
  have la5 := ob_lt ea5
  have hP5' : PoolAt (w5.alloc (.cells #[.int .i64 1, .int .i64 2] 93)) p _ [2] [true] :=
    (show PoolAt w5 p _ [2] [true] from hP5).keep (S := []) ((Keep.refl _ _).alloc _) (by simp) (by simp)
  have hk05' : Keep [] w (w5.alloc (.cells #[.int .i64 1, .int .i64 2] 93)) := hk05.alloc _
  have ca5' := cell_of_ob ea5
  simp only [tagV, List.getD, List.getElem?_cons_zero, Option.getD_some, hi1, Int.ofNat_zero, Int.zero_add]
  clear h5 hF4 hF5 hP4 hP5
  go_wp2_with fail
  refine (aLives _ p _ _ _ hP5' 1 1).mono ?_
  rintro _ w6 ⟨rfl, hk6⟩
  rw [show livesB [2] [true] 1 1 = false by decide]
  have hP6 := hP5'.keep hk6 (by simp) (by simp)
  have eb6 := hk6.kp eb5 (by simp)
  have cb6 := cell_of_ob eb6
  have lb6 := ob_lt eb6
  go_wp2_with fail
  refine (aLives _ p _ _ _ hP6 1 2).mono ?_
  rintro _ w7 ⟨rfl, hk7⟩
  rw [show livesB [2] [true] 1 2 = true by decide]
  have hkE : Keep [] w w7 := (hk05'.trans hk6).trans hk7
  clear hP6 hP5' hP3 hP2' hP1
  go_wp2
  go_ret
  exact ⟨rfl, hkE⟩
end Go.Proofs.Ytfljhfggjbkomaa
