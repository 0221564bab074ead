import Derived.Test.YtfihnnijcaapkaaOc
namespace Go.Proofs.Ytfihnnijcaapkaa
open Go.RowKit
set_option linter.unusedSimpArgs false
set_option linter.unusedVariables false
attribute [local go_sem] ob_alloc ob_drew ob_drewN ob_setCell ob_setBlock objSet_cells obMap_map obClock_map isMapI_map keyI_mk findI_nil findI_cons lookRes_some lookRes_none lookRes_some' lookRes_none' setBlock_alloc mapPut

/-! ### New -/
theorem info3 : (Try.prog.info? 3).map (fun i => (i.zero, i.size, i.bytes)) = some (some (.int .i64 0), 1, 8) := by kernel_rfl
theorem blkI_zeros (n : Nat) : zeros (.int .i64 0) n = blk (vI fun _ => 0) n := madeCells_same _ 1 n (by omega)
theorem make72 (n : Nat) (hn : n ≤ 1000000) (w : World) : (Instr.makeSlice 72 (.int .i64 (n : Int)) (.int .i64 (n : Int))).run Try.prog w = .ok (.slice (some ⟨w.heap.size, 0, none⟩) n n) (w.alloc (.cells (blk (vI fun _ => 0) n) 3)) := by
  rw [← blkI_zeros]; exact make_row Try.underlying72 info3 rfl n (by omega) (by omega) w
def okFr (n : Int) : Bool := decide (1 ≤ n ∧ n ≤ 256)
theorem okFr_out {n : Int} (h : okFr n = true) : ∃ k : Nat, n = k ∧ 1 ≤ k ∧ k ≤ 256 := by
  have h : 1 ≤ n ∧ n ≤ 256 := by simpa [okFr] using h
  exact ⟨n.toNat, by omega, by omega, by omega⟩
set_option maxRecDepth 100000 in
set_option maxHeartbeats 400000 in
theorem oNew_no (n : Int) (h : okFr n = false) (w : World) : Calls Try.prog 26 #[.int .i64 n] w fun e w' => e = .returned (.tuple #[.pointer none, .int .i64 1]) ∧ w = w' := by
  have h1 : ¬ (1 ≤ n ∧ n ≤ 256) := by simpa [okFr] using h
  rcases (show n < 1 ∨ (¬ n < 1 ∧ 256 < n) by omega) with h | ⟨h, h2⟩
  all_goals
    clear h1
    go_enter Try.func26, Try.ntmps26
    go_wp2
    go_ret2
    exact ⟨rfl, rfl⟩
set_option maxRecDepth 100000 in
set_option maxHeartbeats 400000 in
theorem roNew_no (n : Int) (h : okFr n = false) (w : World) : Calls Try.prog 30 #[.int .i64 n] w fun e w' => e = .returned (.tuple #[.pointer none, .int .i64 1]) ∧ w = w' := by
  have h1 : ¬ (1 ≤ n ∧ n ≤ 256) := by simpa [okFr] using h
  rcases (show n < 1 ∨ (¬ n < 1 ∧ 256 < n) by omega) with h | ⟨h, h2⟩
  all_goals
    clear h1
    go_enter Try.func30, Try.ntmps30
    go_wp2
    go_ret2
    exact ⟨rfl, rfl⟩
theorem setL0 (n k : Nat) (hk : k ≤ n) : blk (vI (setL (fun _ => 0) 0 n (-1))) n = blk (vI fun _ => -1) n := blk_congr fun i hi => by
  show Value.int .i64 (setL _ 0 n (-1) i) = _; unfold setL; rw [if_pos (by omega)]; rfl
theorem setM9 (g n : Nat) (H : Nat → Int) : blk (oF g n (setL (fun _ => 0) 0 9 256) H) 19 = blk (oF g n (fun _ => 256) H) 19 := blk_congr fun i hi => by
  unfold oF
  by_cases e : i = 0
  · rw [if_pos e, if_pos e]
  · rw [if_neg e, if_neg e]
    by_cases e2 : i < 10
    · rw [if_pos e2, if_pos e2]; unfold setL; rw [if_pos (by omega)]
    · rw [if_neg e2, if_neg e2]
theorem setM9r (g n : Nat) : blk (rF g n (setL (fun _ => 0) 0 9 256)) 10 = blk (rF g n (fun _ => 256)) 10 := blk_congr fun i hi => by
  unfold rF
  by_cases e : i = 0
  · rw [if_pos e, if_pos e]
  · rw [if_neg e, if_neg e]; unfold setL; rw [if_pos (by omega)]
set_option maxRecDepth 100000 in
set_option maxRecDepth 100000 in
set_option maxHeartbeats 800000 in
theorem oNew_ok (n : Nat) (h1 : 1 ≤ n) (h2 : n ≤ 256) (w : World) : Calls Try.prog 26 #[.int .i64 n] w fun e w' => e = .returned (.tuple #[.pointer (some ⟨w.heap.size + 1, 0, none⟩), .int .i64 0]) ∧ OAt w' (w.heap.size + 1) w.heap.size n (fun _ => -1) (fun _ => 256) (fun _ => 0) ∧ Keep [] w w' ∧ w.heap.size + 1 < w'.heap.size := by
  have hmk := make72 n (by omega)
  have hO0 : OAt ((w.alloc (.cells (blk (vI fun _ => 0) n) 3)).alloc (.cells #[.slice (some ⟨w.heap.size, 0, none⟩) n n, .int .i64 0, .int .i64 0, .int .i64 0, .int .i64 0, .int .i64 0, .int .i64 0, .int .i64 0, .int .i64 0, .int .i64 0, .int .i64 0, .int .i64 0, .int .i64 0, .int .i64 0, .int .i64 0, .int .i64 0, .int .i64 0, .int .i64 0, .int .i64 0] 74)) (w.heap.size + 1) w.heap.size n (setL (fun _ => 0) 0 0 (-1)) (setL (fun _ => 0) 0 0 256) (fun _ => 0) := by
    rw [setL_zero, setL_zero]
    exact ⟨al_new _ _ (by simp), al (al_new _ _ rfl), by omega⟩
  have hk0 : Keep [] w ((w.alloc (.cells (blk (vI fun _ => 0) n) 3)).alloc (.cells #[.slice (some ⟨w.heap.size, 0, none⟩) n n, .int .i64 0, .int .i64 0, .int .i64 0, .int .i64 0, .int .i64 0, .int .i64 0, .int .i64 0, .int .i64 0, .int .i64 0, .int .i64 0, .int .i64 0, .int .i64 0, .int .i64 0, .int .i64 0, .int .i64 0, .int .i64 0, .int .i64 0, .int .i64 0] 74)) := ((Keep.refl _ _).alloc _).alloc _
  have H0 := Lib.hid (And.intro hO0 hk0)
  clear hO0 hk0
  go_enter Try.func26, Try.ntmps26
  go_wp2_with fail
  obtain ⟨hO0, hk0⟩ := H0.out
  clear H0 hmk
  generalize ((w.alloc (.cells (blk (vI fun _ => 0) n) 3)).alloc (.cells #[.slice (some ⟨w.heap.size, 0, none⟩) n n, .int .i64 0, .int .i64 0, .int .i64 0, .int .i64 0, .int .i64 0, .int .i64 0, .int .i64 0, .int .i64 0, .int .i64 0, .int .i64 0, .int .i64 0, .int .i64 0, .int .i64 0, .int .i64 0, .int .i64 0, .int .i64 0, .int .i64 0, .int .i64 0] 74)) = w1 at *
  obtain ⟨g, hg⟩ : ∃ g, g = w.heap.size := ⟨_, rfl⟩
  obtain ⟨o, ho⟩ : ∃ o, o = g + 1 := ⟨_, rfl⟩
  rw [← hg, ← ho] at hO0 ⊢
  have ng : w.heap.size ≤ g := by omega
  have no : w.heap.size ≤ o := by omega
  have HG := Lib.hid hg
  have HN := Lib.hid ho
  clear hg ho
  go_loopg [22] n (fun gn i wr => ∃ j : Nat, i = .int .i64 j ∧ j ≤ n ∧ gn = n - j ∧ OAt wr o g n (setL (fun _ => 0) 0 j (-1)) (setL (fun _ => 0) 0 0 256) (fun _ => 0) ∧ Keep [] w wr)
  case atStart => exact ⟨0, rfl, by omega, by omega, hO0, hk0⟩
  case round =>
    clear hO0 hk0
    obtain ⟨j, rfl, hj, rfl, hO, hk⟩ := hrel
    have c0 := hO.c0
    by_cases hlt : j < n
    · have cL := hO.cL hlt
      have fL := free_of_ob hO.hg
      have H2 := Lib.hid (And.intro (hO.setL1 j (-1)) (hk.setCell (.inr ng) (b := g) j (.int .i64 (-1))))
      clear hO hk
      go_wp2
      go_roundg (n - (j + 1))
      case measure => omega
      case rel =>
        have e := setL_step (fun _ => 0) 0 j (-1)
        rw [Nat.zero_add] at e
        exact ⟨j + 1, by go_num, by omega, rfl, by rw [← e]; exact H2.out.1, H2.out.2⟩
    · obtain rfl : j = n := by omega
      go_wp2_with fail
      go_loopg [32] 9 (fun gn i wr => ∃ k : Nat, i = .int .i64 k ∧ k ≤ 9 ∧ gn = 9 - k ∧ OAt wr o g j (setL (fun _ => 0) 0 j (-1)) (setL (fun _ => 0) 0 k 256) (fun _ => 0) ∧ Keep [] w wr)
      case atStart => exact ⟨0, rfl, by omega, by omega, hO, hk⟩
      case round =>
        clear hO hk c0
        obtain ⟨k, rfl, hk9, rfl, hO, hk⟩ := hrel
        by_cases hlt2 : k < 9
        · have cM := hO.cM hlt2
          have fM := free_of_ob hO.ho
          have H2 := Lib.hid (And.intro (hO.setM hlt2 256) (hk.setCell (.inr no) (b := o) (1 + k) (.int .i64 256)))
          clear hO hk
          go_wp2
          go_roundg (9 - (k + 1))
          case measure => omega
          case rel =>
            have e := setL_step (fun _ => 0) 0 k 256
            rw [Nat.zero_add] at e
            exact ⟨k + 1, by go_num, by omega, rfl, by rw [← e]; exact H2.out.1, H2.out.2⟩
        · obtain rfl : k = 9 := by omega
          have H3 : Hid (OAt wr o g j (fun _ => -1) (fun _ => 256) (fun _ => 0) ∧ Keep [] w wr) :=
            Lib.hid ⟨⟨by rw [← setM9 g j (fun _ => 0)]; exact hO.ho, by rw [← setL0 j j (Nat.le_refl _)]; exact hO.hg, hO.ne⟩, hk⟩
          have lo := ob_lt hO.ho
          clear hO hk
          go_wp2
          go_ret2
          have e1 := HN.out
          have e2 := HG.out
          subst e1
          subst e2
          exact ⟨rfl, H3.out.1, H3.out.2, lo⟩
set_option maxRecDepth 100000 in
set_option maxRecDepth 100000 in
set_option maxHeartbeats 800000 in
theorem roNew_ok (n : Nat) (h1 : 1 ≤ n) (h2 : n ≤ 256) (w : World) : Calls Try.prog 30 #[.int .i64 n] w fun e w' => e = .returned (.tuple #[.pointer (some ⟨w.heap.size + 1, 0, none⟩), .int .i64 0]) ∧ ROAt w' (w.heap.size + 1) w.heap.size n (fun _ => -1) (fun _ => 256) ∧ Keep [] w w' ∧ w.heap.size + 1 < w'.heap.size := by
  have hmk := make72 n (by omega)
  have hO0 : ROAt ((w.alloc (.cells (blk (vI fun _ => 0) n) 3)).alloc (.cells #[.slice (some ⟨w.heap.size, 0, none⟩) n n, .int .i64 0, .int .i64 0, .int .i64 0, .int .i64 0, .int .i64 0, .int .i64 0, .int .i64 0, .int .i64 0, .int .i64 0] 79)) (w.heap.size + 1) w.heap.size n (setL (fun _ => 0) 0 0 (-1)) (setL (fun _ => 0) 0 0 256) := by
    rw [setL_zero, setL_zero]
    exact ⟨al_new _ _ (by simp), al (al_new _ _ rfl), by omega⟩
  have hk0 : Keep [] w ((w.alloc (.cells (blk (vI fun _ => 0) n) 3)).alloc (.cells #[.slice (some ⟨w.heap.size, 0, none⟩) n n, .int .i64 0, .int .i64 0, .int .i64 0, .int .i64 0, .int .i64 0, .int .i64 0, .int .i64 0, .int .i64 0, .int .i64 0] 79)) := ((Keep.refl _ _).alloc _).alloc _
  have H0 := Lib.hid (And.intro hO0 hk0)
  clear hO0 hk0
  go_enter Try.func30, Try.ntmps30
  go_wp2_with fail
  obtain ⟨hO0, hk0⟩ := H0.out
  clear H0 hmk
  generalize ((w.alloc (.cells (blk (vI fun _ => 0) n) 3)).alloc (.cells #[.slice (some ⟨w.heap.size, 0, none⟩) n n, .int .i64 0, .int .i64 0, .int .i64 0, .int .i64 0, .int .i64 0, .int .i64 0, .int .i64 0, .int .i64 0, .int .i64 0] 79)) = w1 at *
  obtain ⟨g, hg⟩ : ∃ g, g = w.heap.size := ⟨_, rfl⟩
  obtain ⟨o, ho⟩ : ∃ o, o = g + 1 := ⟨_, rfl⟩
  rw [← hg, ← ho] at hO0 ⊢
  have ng : w.heap.size ≤ g := by omega
  have no : w.heap.size ≤ o := by omega
  have HG := Lib.hid hg
  have HN := Lib.hid ho
  clear hg ho
  go_loopg [5] n (fun gn i wr => ∃ j : Nat, i = .int .i64 j ∧ j ≤ n ∧ gn = n - j ∧ ROAt wr o g n (setL (fun _ => 0) 0 j (-1)) (setL (fun _ => 0) 0 0 256) ∧ Keep [] w wr)
  case atStart => exact ⟨0, rfl, by omega, by omega, hO0, hk0⟩
  case round =>
    clear hO0 hk0
    obtain ⟨j, rfl, hj, rfl, hO, hk⟩ := hrel
    have c0 := hO.c0
    by_cases hlt : j < n
    · have cL := hO.cL hlt
      have fL := free_of_ob hO.hg
      have H2 := Lib.hid (And.intro (hO.setL1 j (-1)) (hk.setCell (.inr ng) (b := g) j (.int .i64 (-1))))
      clear hO hk
      go_wp2
      go_roundg (n - (j + 1))
      case measure => omega
      case rel =>
        have e := setL_step (fun _ => 0) 0 j (-1)
        rw [Nat.zero_add] at e
        exact ⟨j + 1, by go_num, by omega, rfl, by rw [← e]; exact H2.out.1, H2.out.2⟩
    · obtain rfl : j = n := by omega
      go_wp2_with fail
      go_loopg [6] 9 (fun gn i wr => ∃ k : Nat, i = .int .i64 k ∧ k ≤ 9 ∧ gn = 9 - k ∧ ROAt wr o g j (setL (fun _ => 0) 0 j (-1)) (setL (fun _ => 0) 0 k 256) ∧ Keep [] w wr)
      case atStart => exact ⟨0, rfl, by omega, by omega, hO, hk⟩
      case round =>
        clear hO hk c0
        obtain ⟨k, rfl, hk9, rfl, hO, hk⟩ := hrel
        by_cases hlt2 : k < 9
        · have cM := hO.cM hlt2
          have fM := free_of_ob hO.ho
          have H2 := Lib.hid (And.intro (hO.setM hlt2 256) (hk.setCell (.inr no) (b := o) (1 + k) (.int .i64 256)))
          clear hO hk
          go_wp2
          go_roundg (9 - (k + 1))
          case measure => omega
          case rel =>
            have e := setL_step (fun _ => 0) 0 k 256
            rw [Nat.zero_add] at e
            exact ⟨k + 1, by go_num, by omega, rfl, by rw [← e]; exact H2.out.1, H2.out.2⟩
        · obtain rfl : k = 9 := by omega
          have H3 : Hid (ROAt wr o g j (fun _ => -1) (fun _ => 256) ∧ Keep [] w wr) :=
            Lib.hid ⟨⟨by rw [← setM9r g j]; exact hO.ho, by rw [← setL0 j j (Nat.le_refl _)]; exact hO.hg, hO.ne⟩, hk⟩
          have lo := ob_lt hO.ho
          clear hO hk
          go_wp2
          go_ret2
          have e1 := HN.out
          have e2 := HG.out
          subst e1
          subst e2
          exact ⟨rfl, H3.out.1, H3.out.2, lo⟩
end Go.Proofs.Ytfihnnijcaapkaa
