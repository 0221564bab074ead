import Derived.Test.YtfljhfggjbkomaaAe
namespace Go.Proofs.Ytfljhfggjbkomaa
open Go.RowKit
set_option linter.unusedSimpArgs false
set_option linter.unusedVariables false
attribute [local go_sem] ob_alloc ob_drew ob_drewN ob_setCell ob_setBlock objSet_cells obMap_map obClock_map isMapI_map keyI_mk findI_nil findI_cons lookRes_some lookRes_none lookRes_some' lookRes_none' setBlock_alloc mapPut

/-! ### Back, Left -/
def backQ (os : List Int) (bs : List Bool) (a u : Int) (At : World → List Bool → Prop) (p : Nat) (L : List Nat) (w : World) (o : Ending) (w' : World) : Prop :=
  if livesB os bs a u then o = .returned (.int .i64 0) ∧ At w' (bs.set (a - 1).toNat false) ∧ ∃ S, (∀ x, x ∈ S → x ∉ L ∧ x ≠ p) ∧ Keep S w w'
  else o = .returned (.int .i64 2) ∧ Keep [] w w'

theorem lives_out {os : List Int} {bs : List Bool} {a u : Int} (h : livesB os bs a u = true) : 1 ≤ a ∧ bs.getD (a - 1).toNat false = true := by
  unfold livesB givenF at h
  split at h
  · rename_i hq
    split at hq
    · assumption
    · cases hq
  · cases h

set_option maxRecDepth 100000 in
set_option maxHeartbeats 400000 in
theorem aBack (w : World) (p : Nat) (L : List Nat) (os : List Int) (bs : List Bool) (hP : PoolAt w p L os bs) (a u : Int) :
    Calls Try.prog 52 #[.pointer (some ⟨p, 0, none⟩), tagV (a, u)] w (backQ os bs a u (fun w b => PoolAt w p L os b) p L w) := by
  have lP : p < w.heap.size := by obtain ⟨_, _, _, _, _, _, _, _, h4, _⟩ := hP; exact ob_lt h4
  have hPl := fun o => hP.keep ((Keep.refl [] w).alloc o) (by simp) (by simp)
  unfold tagV
  go_enter Try.func52, Try.ntmps52
  go_wp2_with fail
  refine (aLives _ p L os bs (hPl _) a u).mono ?_
  rintro _ w1 ⟨rfl, hk1⟩
  cases hl : livesB os bs a u with
  | false =>
    have HL := Lib.hid hl
    have hk : Keep [] w w1 := ((Keep.refl _ _).alloc _).andThen hk1 (by simp)
    clear hl
    go_wp2
    go_ret
    unfold backQ
    rw [HL.out]
    exact ⟨rfl, hk⟩
  | true =>
    have HL := Lib.hid hl
    obtain ⟨ha, hb⟩ := lives_out hl
    have hk : Keep [] w w1 := ((Keep.refl _ _).alloc _).andThen hk1 (by simp)
    have e1 := hk1.kp (al_new w (.cells #[.int .i64 a, .int .i64 u] 93) rfl) (by simp)
    have c1 := cell_of_ob e1
    have l1 := ob_lt e1
    obtain ⟨g, m, l, hg, hm, gp, mp, gm, h4, h5, h6, h7, h8, h9⟩ := hP
    have q4 := hk.kp h4 (by simp)
    have q5 := hk.kp h5 (by simp)
    have c4 := cell_of_ob q4
    have l4 := ob_lt q4
    have q6 := h6.keep hk (by simp)
    have hnd : (l.map (·.1)).Nodup := by obtain ⟨_, _, _, _, h⟩ := h6; exact h
    obtain ⟨w2, hcut, hM2, hk2, hs2⟩ := (q6.keep (Keep.drew (Keep.refl [] _)) (by simp)).cut Try.underlying127 Try.underlying3 3 0 a
    have hEnd : PoolAt w2 p L os (bs.set (a - 1).toNat false) := ⟨g, m, _, hg, hm, gp, mp, gm, hk2.kp (dr q4) (by simp; omega), hk2.kp (dr q5) (by simp; omega), hM2, h7.back hnd a ha hb, h8, h9⟩
    have hkE : Keep [m] w w2 := ((hk.mono (by simp)).drew).andThen hk2 (by simp)
    generalize os.length = n at *
    clear hl hb h4 h5 h6 h7 q4 q5 q6 hM2 e1 hPl
    go_wp2
    go_region
    go_wp2
    go_ret
    unfold backQ
    rw [HL.out]
    exact ⟨rfl, hEnd, [m], by simp; exact ⟨hm, mp⟩, hkE⟩

set_option maxRecDepth 100000 in
set_option maxHeartbeats 400000 in
theorem rBack (w : World) (p : Nat) (L : List Nat) (os : List Int) (bs : List Bool) (hP : RPoolAt w p L os bs) (a u : Int) :
    Calls Try.prog 53 #[.pointer (some ⟨p, 0, none⟩), tagV (a, u)] w (backQ os bs a u (fun w b => RPoolAt w p L os b) p L w) := by
  have lP : p < w.heap.size := by obtain ⟨_, _, _, _, _, _, _, h4, _⟩ := hP; exact ob_lt h4
  have hPl := fun o => hP.keep ((Keep.refl [] w).alloc o) (by simp) (by simp)
  unfold tagV
  go_enter Try.func53, Try.ntmps53
  go_wp2_with fail
  refine (rLives _ p L os bs (hPl _) a u).mono ?_
  rintro _ w1 ⟨rfl, hk1⟩
  cases hl : livesB os bs a u with
  | false =>
    have HL := Lib.hid hl
    have hk : Keep [] w w1 := ((Keep.refl _ _).alloc _).andThen hk1 (by simp)
    clear hl
    go_wp2
    go_ret
    unfold backQ
    rw [HL.out]
    exact ⟨rfl, hk⟩
  | true =>
    have HL := Lib.hid hl
    obtain ⟨ha, hb⟩ := lives_out hl
    obtain ⟨k, rfl⟩ : ∃ k : Nat, a = k + 1 := ⟨(a - 1).toNat, by omega⟩
    rw [show ((k : Int) + 1 - 1).toNat = k by omega] at hb
    have hk : Keep [] w w1 := ((Keep.refl _ _).alloc _).andThen hk1 (by simp)
    have e1 := hk1.kp (al_new w (.cells #[.int .i64 ((k : Int) + 1), .int .i64 u] 98) rfl) (by simp)
    have c1 := cell_of_ob e1
    have l1 := ob_lt e1
    obtain ⟨g, m, hg, hm, gp, mp, gm, h4, h5, h6, h7, h8, h9⟩ := hP
    have hkb : k < bs.length := by
      rcases Nat.lt_or_ge k bs.length with h | h
      · exact h
      · rw [List.getD, List.getElem?_eq_none h] at hb; cases hb
    have hkn : k < os.length := by omega
    have q4 := hk.kp h4 (by simp)
    have q5 := hk.kp h5 (by simp)
    have q6 := hk.kp h6 (by simp)
    have c4 := cell_of_ob q4
    have l4 := ob_lt q4
    have c6 : w1.cell? ⟨m, k, none⟩ = some (.bool true) := by rw [cell_of_ob q6, ← hb]; exact bools_get hkb
    have f6 := free_of_ob q6
    have l6 := ob_lt q6
    have hEnd : RPoolAt (w1.drew.setCell ⟨m, k, none⟩ (.bool false)) p L os (bs.set k false) :=
      ⟨g, m, hg, hm, gp, mp, gm, st (dr q4) (by omega), st (dr q5) (by omega), by rw [← bools_set]; exact st_same (dr q6), by simpa using h7, h8, h9⟩
    have hkE : Keep [m] w (w1.drew.setCell ⟨m, k, none⟩ (.bool false)) := ((hk.mono (by simp)).drew).setCell (.inl (by simp)) _ _
    generalize os.length = n at *
    clear hl hb h4 h5 h6 h7 q4 q5 q6 e1 hPl
    go_wp2
    go_region
    go_wp2
    go_ret
    unfold backQ
    rw [HL.out, show ((k : Int) + 1 - 1).toNat = k by omega]
    exact ⟨rfl, hEnd, [m], by simp; exact ⟨hm, mp⟩, hkE⟩
end Go.Proofs.Ytfljhfggjbkomaa
