import Derived.Test.YtjiienoflgolpaaMf
namespace Go.Proofs.Ytjiienoflgolpaa
open Go.RowKit
set_option linter.unusedSimpArgs false
set_option linter.unusedVariables false
attribute [local go_sem] ob_alloc ob_drew ob_drewN ob_setCell ob_setBlock objSet_cells obMap_map obClock_map isMapI_map keyI_mk findI_nil findI_cons lookRes_some lookRes_none lookRes_some' lookRes_none' setBlock_alloc mapPut

theorem RMemAt.cp {w : World} {m g n : Nat} {s : Nat → Int} (h : RMemAt w m g n s) : w.cell? ⟨m, 0, none⟩ = some (.slice (some ⟨g, 0, none⟩) (n * 16) (n * 16)) := cell_of_ob h.1 0

set_option maxRecDepth 100000 in
set_option maxHeartbeats 400000 in
theorem rmRead (w : World) (m g n : Nat) (s : Nat → Int) (hM : RMemAt w m g n s) (a : Int) :
    Calls Try.prog 46 #[.pointer (some ⟨m, 0, none⟩), .int .i64 a] w fun o w' => o = .returned (.tuple #[.int .u64 (readR n s a), .int .i64 (eR (okA n a))]) ∧ w = w' := by
  unfold readR
  have c0 := hM.cp
  have hn := hM.2.2.2.2
  cases ho : okA n a with
  | false =>
    have h : ¬ (0 ≤ a ∧ a < n * 16) := by simpa [okA] using ho
    simp only [Bool.false_eq_true, if_false, eR]
    rcases (show a < 0 ∨ (¬ a < 0 ∧ (n : Int) * 16 ≤ a) by omega) with h1 | h1
    all_goals
      clear hM ho h
      go_enter Try.func46, Try.ntmps46
      go_wp2
      go_ret2
      exact ⟨rfl, rfl⟩
  | true =>
    obtain ⟨k, rfl, hk⟩ := okA_out ho
    have c1 := hM.cell k hk
    simp only [if_true, eR, Int.toNat_natCast]
    clear hM ho
    go_enter Try.func46, Try.ntmps46
    go_wp2
    go_ret2
    exact ⟨rfl, rfl⟩
set_option maxRecDepth 100000 in
set_option maxHeartbeats 400000 in
theorem rmWrite (w : World) (m g n : Nat) (s : Nat → Int) (hM : RMemAt w m g n s) (a x : Int) :
    Calls Try.prog 41 #[.pointer (some ⟨m, 0, none⟩), .int .i64 a, .int .u64 x] w fun o w' => o = .returned (.int .i64 (eR (okA n a))) ∧ RMemAt w' m g n (writeS n s a x) ∧ Keep [g] w w' := by
  unfold writeS
  have c0 := hM.cp
  have hn := hM.2.2.2.2
  have hk0 := Keep.refl [g] w
  cases ho : okA n a with
  | false =>
    have h : ¬ (0 ≤ a ∧ a < n * 16) := by simpa [okA] using ho
    simp only [Bool.false_eq_true, if_false, eR]
    have H := Lib.hid hM
    rcases (show a < 0 ∨ (¬ a < 0 ∧ (n : Int) * 16 ≤ a) by omega) with h1 | h1
    all_goals
      clear hM ho h
      go_enter Try.func41, Try.ntmps41
      go_wp2
      go_ret
      exact ⟨rfl, H.out, hk0⟩
  | true =>
    obtain ⟨k, rfl, hk⟩ := okA_out ho
    obtain ⟨x0, c1⟩ : ∃ x, w.cell? ⟨g, k, none⟩ = some x := ⟨_, hM.cell k hk⟩
    have fr := free_of_ob hM.2.1
    simp only [if_true, eR, Int.toNat_natCast]
    have H := Lib.hid (hM.store k x)
    have K := Lib.hid (hk0.setCell (.inl (by simp)) (b := g) k (.int .u64 x))
    clear hM ho hk0
    go_enter Try.func41, Try.ntmps41
    go_wp2
    go_ret
    exact ⟨rfl, H.out, K.out⟩
set_option maxRecDepth 100000 in
set_option maxHeartbeats 400000 in
theorem rmHas (w : World) (m g n : Nat) (s : Nat → Int) (hM : RMemAt w m g n s) (f : Int) :
    Calls Try.prog 49 #[.pointer (some ⟨m, 0, none⟩), .int .i64 f] w fun o w' => o = .returned (.bool (hasB n f 1)) ∧ w = w' := by
  have c0 := hM.cp
  have hn := hM.2.2.2.2
  have hn1 := hM.2.2.2.1
  have hd : (((n * 16 : Nat) : Int)).tdiv 16 = (n : Int) := by rw [Int.tdiv_eq_ediv_of_nonneg (by omega)]; omega
  clear hM
  by_cases h3 : 0 ≤ f
  · by_cases h4 : f < n
    · have e : hasB n f 1 = true := by unfold hasB; simp; omega
      rw [e]
      clear e
      go_enter Try.func49, Try.ntmps49
      go_wp2
      go_ret
      exact ⟨rfl, rfl⟩
    · have e : hasB n f 1 = false := by unfold hasB; simp; omega
      rw [e]
      clear e
      go_enter Try.func49, Try.ntmps49
      go_wp2
      go_ret
      exact ⟨rfl, rfl⟩
  · have e : hasB n f 1 = false := by unfold hasB; simp; omega
    rw [e]
    clear e
    go_enter Try.func49, Try.ntmps49
    go_wp2
    go_ret
    exact ⟨rfl, rfl⟩
/-! ### Zero -/
set_option maxRecDepth 100000 in
set_option maxHeartbeats 800000 in
theorem rmZero (w : World) (m g n : Nat) (s : Nat → Int) (hM : RMemAt w m g n s) (f : Int) :
    Calls Try.prog 48 #[.pointer (some ⟨m, 0, none⟩), .int .i64 f] w fun o w' => o = .returned (.bool (zeroB n s f)) ∧ w = w' := by
  unfold zeroB
  cases ho : hasB n f 1 with
  | false =>
    go_enter Try.func48, Try.ntmps48
    go_wp2_with fail
    refine (rmHas w m g n s hM f).mono ?_
    rintro _ w1 ⟨rfl, rfl⟩
    rw [ho]
    clear hM ho
    go_wp2
    go_ret
    exact ⟨rfl, rfl⟩
  | true =>
    obtain ⟨k, rfl, hk⟩ := hasB_out ho
    have c0 := hM.cp
    have hn := hM.2.2.2.2
    go_enter Try.func48, Try.ntmps48
    go_wp2_with fail
    refine (rmHas w m g n s hM k).mono ?_
    rintro _ w1 ⟨rfl, rfl⟩
    rw [ho]
    clear ho
    go_wp2
    go_loop [5] (fun i => ∃ c : Nat, c ≤ 16 ∧ i = .int .i64 c ∧ ∀ j, j < c → s (k * 16 + j) = 0) (fun i => 16 - (intOf i).toNat)
    case atStart => exact ⟨0, by omega, rfl, by intro j hj; omega⟩
    case round =>
      obtain ⟨c, hc, rfl, hI⟩ := hrel
      by_cases hlt : c < 16
      · have c1 := hM.cell (16 * k + c) (by omega)
        by_cases hz : s (16 * k + c) = 0
        · rw [hz] at c1
          have HI : Hid (∀ j, j < c + 1 → s (k * 16 + j) = 0) := by
            intro j hj
            by_cases e : j = c
            · subst e; rw [show k * 16 + j = 16 * k + j by omega]; exact hz
            · exact hI j (by omega)
          have HM := Lib.hid hM
          clear hI hz hM
          go_wp2
          go_round
          case rel => exact ⟨c + 1, by omega, by go_num, HI.out⟩
          case measure => simp [intOf]; omega
        · have hz' : (s (16 * k + c) != 0) = true := by simpa using hz
          have e : eqB (fr s k) (fun _ => 0) = false := by
            cases h : eqB (fr s k) (fun _ => 0) with
            | false => rfl
            | true =>
              have := (eqB_iff _ _).1 h c hlt
              simp only [fr, Int.toNat_natCast] at this
              rw [show k * 16 + c = 16 * k + c by omega] at this
              exact absurd this hz
          have HE := Lib.hid e
          have HM := Lib.hid hM
          clear hI hM e
          go_wp2
          go_ret
          exact ⟨by rw [HE.out]; rfl, rfl⟩
      · have e : eqB (fr s k) (fun _ => 0) = true := (eqB_iff _ _).2 (fun j hj => hI j (by omega))
        have HE := Lib.hid e
        have HM := Lib.hid hM
        clear hI hM e
        go_wp2
        go_ret
        exact ⟨by rw [HE.out]; rfl, rfl⟩
end Go.Proofs.Ytjiienoflgolpaa
