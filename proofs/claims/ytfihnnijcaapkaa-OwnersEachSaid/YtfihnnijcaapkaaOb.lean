import Derived.Test.YtfihnnijcaapkaaOa
import Derived.Test.YtfihnnijcaapkaaRows
import Derived.WalkMore
import Derived.Deep.LoopGhost
import Derived.Deep.CutRange
import Derived.Deep.CutBlock
namespace Go.Proofs.Ytfihnnijcaapkaa
open Go.RowKit
set_option linter.unusedSimpArgs false
set_option linter.unusedVariables false
attribute [local go_sem] ob_alloc ob_drew ob_drewN ob_setCell ob_setBlock objSet_cells obMap_map obClock_map isMapI_map keyI_mk findI_nil findI_cons lookRes_some lookRes_none lookRes_some' lookRes_none' setBlock_alloc mapPut

/-! ### owners in memory -/
def oF (g n : Nat) (M H : Nat → Int) : Nat → Value := fun i => if i = 0 then .slice (some ⟨g, 0, none⟩) n n else if i < 10 then .int .i64 (M (i - 1)) else .int .i64 (H (i - 10))
def rF (g n : Nat) (M : Nat → Int) : Nat → Value := fun i => if i = 0 then .slice (some ⟨g, 0, none⟩) n n else .int .i64 (M (i - 1))
structure OAt (w : World) (o g n : Nat) (L M H : Nat → Int) : Prop where
  ho : ob w o = some (.cells (blk (oF g n M H) 19) 74 (0, 0))
  hg : ob w g = some (.cells (blk (vI L) n) 3 (0, 0))
  ne : g ≠ o
structure ROAt (w : World) (o g n : Nat) (L M : Nat → Int) : Prop where
  ho : ob w o = some (.cells (blk (rF g n M) 10) 79 (0, 0))
  hg : ob w g = some (.cells (blk (vI L) n) 3 (0, 0))
  ne : g ≠ o
section
variable {w : World} {o g n : Nat} {L M H : Nat → Int}
theorem OAt.keep {S : List Nat} {w' : World} (h : OAt w o g n L M H) (hk : Keep S w w') (h1 : o ∉ S) (h2 : g ∉ S) : OAt w' o g n L M H := ⟨hk.kp h.ho h1, hk.kp h.hg h2, h.ne⟩
theorem ROAt.keep {S : List Nat} {w' : World} (h : ROAt w o g n L M) (hk : Keep S w w') (h1 : o ∉ S) (h2 : g ∉ S) : ROAt w' o g n L M := ⟨hk.kp h.ho h1, hk.kp h.hg h2, h.ne⟩
theorem OAt.c0 (h : OAt w o g n L M H) : w.cell? ⟨o, 0, none⟩ = some (.slice (some ⟨g, 0, none⟩) n n) := blk_cell h.ho (by omega)
theorem ROAt.c0 (h : ROAt w o g n L M) : w.cell? ⟨o, 0, none⟩ = some (.slice (some ⟨g, 0, none⟩) n n) := blk_cell h.ho (by omega)
theorem OAt.cM (h : OAt w o g n L M H) {k : Nat} (hk : k < 9) : w.cell? ⟨o, 1 + k, none⟩ = some (.int .i64 (M k)) := by
  rw [blk_cell h.ho (by omega)]; unfold oF; rw [if_neg (by omega), if_pos (by omega), show 1 + k - 1 = k by omega]
theorem OAt.cH (h : OAt w o g n L M H) {k : Nat} (hk : k < 9) : w.cell? ⟨o, 10 + k, none⟩ = some (.int .i64 (H k)) := by
  rw [blk_cell h.ho (by omega)]; unfold oF; rw [if_neg (by omega), if_neg (by omega), show 10 + k - 10 = k by omega]
theorem ROAt.cM (h : ROAt w o g n L M) {k : Nat} (hk : k < 9) : w.cell? ⟨o, 1 + k, none⟩ = some (.int .i64 (M k)) := by
  rw [blk_cell h.ho (by omega)]; unfold rF; rw [if_neg (by omega), show 1 + k - 1 = k by omega]
theorem OAt.cL (h : OAt w o g n L M H) {i : Nat} (hi : i < n) : w.cell? ⟨g, i, none⟩ = some (.int .i64 (L i)) := blk_cell h.hg hi
theorem ROAt.cL (h : ROAt w o g n L M) {i : Nat} (hi : i < n) : w.cell? ⟨g, i, none⟩ = some (.int .i64 (L i)) := blk_cell h.hg hi
theorem OAt.setM (h : OAt w o g n L M H) {k : Nat} (hk : k < 9) (v : Int) : OAt (w.setCell ⟨o, 1 + k, none⟩ (.int .i64 v)) o g n L (updW M k v) H := by
  refine ⟨?_, st h.hg h.ne, h.ne⟩
  rw [blk_store h.ho, blk_congr (g := oF g n (updW M k v) H) (fun i hi => ?_)]
  unfold upd oF updW
  by_cases e : i = 1 + k
  · rw [if_pos e, if_neg (by omega), if_pos (by omega), if_pos (by omega)]
  · rw [if_neg e]
    by_cases e1 : i = 0
    · rw [if_pos e1, if_pos e1]
    · rw [if_neg e1, if_neg e1]
      by_cases e2 : i < 10
      · rw [if_pos e2, if_pos e2, if_neg (by omega)]
      · rw [if_neg e2, if_neg e2]
theorem OAt.setH (h : OAt w o g n L M H) {k : Nat} (hk : k < 9) (v : Int) : OAt (w.setCell ⟨o, 10 + k, none⟩ (.int .i64 v)) o g n L M (updW H k v) := by
  refine ⟨?_, st h.hg h.ne, h.ne⟩
  rw [blk_store h.ho, blk_congr (g := oF g n M (updW H k v)) (fun i hi => ?_)]
  unfold upd oF updW
  by_cases e : i = 10 + k
  · rw [if_pos e, if_neg (by omega), if_neg (by omega), if_pos (by omega)]
  · rw [if_neg e]
    by_cases e1 : i = 0
    · rw [if_pos e1, if_pos e1]
    · rw [if_neg e1, if_neg e1]
      by_cases e2 : i < 10
      · rw [if_pos e2, if_pos e2]
      · rw [if_neg e2, if_neg e2, if_neg (by omega)]
theorem ROAt.setM (h : ROAt w o g n L M) {k : Nat} (hk : k < 9) (v : Int) : ROAt (w.setCell ⟨o, 1 + k, none⟩ (.int .i64 v)) o g n L (updW M k v) := by
  refine ⟨?_, st h.hg h.ne, h.ne⟩
  rw [blk_store h.ho, blk_congr (g := rF g n (updW M k v)) (fun i hi => ?_)]
  unfold upd rF updW
  by_cases e : i = 1 + k
  · rw [if_pos e, if_neg (by omega), if_pos (by omega)]
  · rw [if_neg e]
    by_cases e1 : i = 0
    · rw [if_pos e1, if_pos e1]
    · rw [if_neg e1, if_neg e1, if_neg (by omega)]
theorem OAt.setL1 (h : OAt w o g n L M H) (i : Nat) (v : Int) : OAt (w.setCell ⟨g, i, none⟩ (.int .i64 v)) o g n (updW L i v) M H :=
  ⟨st h.ho h.ne.symm, by rw [← vI_upd]; exact blk_store h.hg i _, h.ne⟩
theorem ROAt.setL1 (h : ROAt w o g n L M) (i : Nat) (v : Int) : ROAt (w.setCell ⟨g, i, none⟩ (.int .i64 v)) o g n (updW L i v) M :=
  ⟨st h.ho h.ne.symm, by rw [← vI_upd]; exact blk_store h.hg i _, h.ne⟩
theorem setL_zero (L : Nat → Int) (F : Nat) (x : Int) : setL L F 0 x = L := by
  funext i; unfold setL; rw [if_neg (by omega)]
theorem setL_step (L : Nat → Int) (F k : Nat) (x : Int) : updW (setL L F k x) (F + k) x = setL L F (k + 1) x := by
  funext i
  show (if i = F + k then x else if F ≤ i ∧ i < F + k then x else L i) = if F ≤ i ∧ i < F + (k + 1) then x else L i
  by_cases e : i = F + k
  · rw [if_pos e, if_pos (by omega)]
  · rw [if_neg e]
    by_cases e2 : F ≤ i ∧ i < F + k
    · rw [if_pos e2, if_pos (by omega)]
    · rw [if_neg e2, if_neg (by omega)]
end

set_option maxRecDepth 100000 in
set_option maxHeartbeats 400000 in
theorem oMay (w : World) (x : Int) : Calls Try.prog 46 #[.int .i64 x] w fun e w' => e = .returned (.bool (mayB x)) ∧ w = w' := by
  have hc : x < 0 ∨ (0 ≤ x ∧ 8 < x) ∨ (0 ≤ x ∧ x ≤ 8) := by omega
  rcases hc with h | ⟨h, h2⟩ | ⟨h, h2⟩
  · have e : mayB x = false := by unfold mayB; simp; omega
    rw [e]; clear e
    go_enter Try.func46, Try.ntmps46
    go_wp2
    go_ret
    exact ⟨rfl, rfl⟩
  · have e : mayB x = false := by unfold mayB; simp; omega
    have h3 : decide (x ≤ 8) = false := by simp; omega
    rw [e]; clear e
    go_enter Try.func46, Try.ntmps46
    go_wp2
    go_ret
    exact ⟨rfl, rfl⟩
  · have e : mayB x = true := by unfold mayB; simp; omega
    rw [e]; clear e
    go_enter Try.func46, Try.ntmps46
    go_wp2
    go_ret
    exact ⟨rfl, rfl⟩
theorem areB_no {n : Nat} {f m : Int} (h : areB n f m = false) : m < 1 ∨ (1 ≤ m ∧ (n : Int) < m) ∨ (1 ≤ m ∧ m ≤ n ∧ f < 0) ∨ (1 ≤ m ∧ m ≤ n ∧ 0 ≤ f ∧ (n : Int) - m < f) := by
  unfold areB at h; simp at h; omega
set_option maxRecDepth 100000 in
set_option maxHeartbeats 400000 in
theorem oAre_no (w : World) (o g n : Nat) (L M H : Nat → Int) (hO : OAt w o g n L M H) (hn : n ≤ 256) (f m x : Int) (hno : ¬ (mayB x = true ∧ areB n f m = true)) : Calls Try.prog 47 #[.pointer (some ⟨o, 0, none⟩), .int .i64 f, .int .i64 m, .int .i64 x] w fun e w' => e = .returned (.slice none 0 0) ∧ w = w' := by
  have c0 := hO.c0
  clear hO
  cases hm : mayB x with
  | false =>
    go_enter Try.func47, Try.ntmps47
    go_wp2_with fail
    refine (oMay w x).mono ?_
    rintro _ w2 ⟨rfl, rfl⟩
    rw [hm]
    clear hm hno
    go_wp2
    go_ret
    exact ⟨rfl, rfl⟩
  | true =>
    have ha : areB n f m = false := by cases h : areB n f m with | false => rfl | true => exact absurd ⟨hm, h⟩ hno
    have hc := areB_no ha
    clear hno ha
    rcases hc with h | ⟨h, h2⟩ | ⟨h, h2, h3⟩ | ⟨h, h2, h3, h4⟩
    all_goals
      go_enter Try.func47, Try.ntmps47
      go_wp2_with fail
      refine (oMay w x).mono ?_
      rintro _ w2 ⟨rfl, rfl⟩
      rw [hm]
      clear hm
      go_wp2
      go_ret
      exact ⟨rfl, rfl⟩
set_option maxRecDepth 100000 in
set_option maxHeartbeats 400000 in
theorem oAre_yes (w : World) (o g n : Nat) (L M H : Nat → Int) (hO : OAt w o g n L M H) (hn : n ≤ 256) (F K k : Nat) (hk : k < 9) (h1 : 1 ≤ K) (h2 : F + K ≤ n) : Calls Try.prog 47 #[.pointer (some ⟨o, 0, none⟩), .int .i64 F, .int .i64 K, .int .i64 k] w fun e w' => e = .returned (.slice (some ⟨g, F, none⟩) K (n - F)) ∧ w = w' := by
  have c0 := hO.c0
  clear hO
  have hm : mayB (k : Int) = true := by unfold mayB; simp; omega
  have s1 : (1 : Int) ≤ (K : Int) := by omega
  have s2 : (K : Int) ≤ (n : Int) := by omega
  have s3 : (F : Int) ≤ (n : Int) - (K : Int) := by omega
  have s4 : (F : Int) + (K : Int) ≤ (n : Int) := by omega
  have s5 : IntKind.i64.wrap ((F : Int) + (K : Int)) = ((F + K : Nat) : Int) := by rw [IntWalk.i64_in _ (by omega)]; omega
  have s6 : ¬ n = F := by omega
  have s7 : F + K - F = K := by omega
  go_enter Try.func47, Try.ntmps47
  go_wp2_with fail
  refine (oMay w k).mono ?_
  rintro _ w2 ⟨rfl, rfl⟩
  rw [hm]
  clear hm
  go_wp2
  go_ret
  exact ⟨by show Ending.returned (.slice (some ⟨g, F, none⟩) (F + K - F) (n - F)) = _; rw [s7], rfl⟩
theorem allB_lt {L : Nat → Int} {F K : Nat} {x : Int} {k : Nat} (h : ∀ i, i < k → L (F + i) = x) (hk : k < K) (hx : ¬ L (F + k) = x) : allB L F K x = false := by
  cases e : allB L F K x with
  | false => rfl
  | true => exact absurd (allB_iff.1 e k hk) hx
set_option maxRecDepth 100000 in
set_option maxHeartbeats 400000 in
theorem oAll (w : World) (g n : Nat) (L : Nat → Int) (hg : ob w g = some (.cells (blk (vI L) n) 3 (0, 0))) (F K c : Nat) (h2 : F + K ≤ n) (h256 : n ≤ 256) (x : Int) : Calls Try.prog 48 #[.slice (some ⟨g, F, none⟩) K c, .int .i64 x] w fun e w' => e = .returned (.bool (allB L F K x)) ∧ w = w' := by
  go_enter Try.func48, Try.ntmps48
  go_wp2
  go_step3
  go_wp2
  go_step3
  go_wp2
  go_loopg [5, 10] K (fun gn s i wr => ∃ k : Nat, i = .int .i64 k ∧ k ≤ K ∧ gn = K - k ∧ s = .bool true ∧ (∀ i, i < k → L (F + i) = x) ∧ w = wr)
  case atStart => exact ⟨0, rfl, by omega, by omega, rfl, by simp, rfl⟩
  case round =>
    obtain ⟨k, rfl, hk, rfl, rfl, hall, rfl⟩ := hrel
    by_cases hlt : k < K
    · have ck : w.cell? ⟨g, F + k, none⟩ = some (.int .i64 (L (F + k))) := blk_cell hg (by omega)
      by_cases hx : L (F + k) = x
      · have HA := Lib.hid (show ∀ i, i < k + 1 → L (F + i) = x from fun i hi => by
          by_cases e : i = k
          · subst e; exact hx
          · exact hall i (by omega))
        rw [hx] at ck
        clear hall hx hg
        go_wp2
        go_roundg (K - (k + 1))
        case measure => omega
        case rel => exact ⟨k + 1, by go_num, by omega, rfl, rfl, HA.out, rfl⟩
      · have HB := Lib.hid (allB_lt hall hlt hx)
        have hx2 : (L (F + k) == x) = false := by simpa using hx
        have hx3 : (L (F + k) != x) = true := by simpa using hx
        generalize L (F + k) = y at *
        clear hall hx hg
        go_wp2
        try rw [Exit.noGoto_ret]
        go_ret
        exact ⟨show Ending.returned (.bool false) = _ by rw [HB.out], rfl⟩
    · obtain rfl : k = K := by omega
      have HB := Lib.hid (allB_iff.2 hall)
      clear hall hg
      go_wp2
      try rw [Exit.noGoto_ret]
      go_ret
      exact ⟨show Ending.returned (.bool true) = _ by rw [HB.out], rfl⟩

set_option maxRecDepth 100000 in
set_option maxHeartbeats 400000 in
theorem oOf (w : World) (o g n : Nat) (L M H : Nat → Int) (hO : OAt w o g n L M H) (hn : n ≤ 256) (f : Int) : Calls Try.prog 29 #[.pointer (some ⟨o, 0, none⟩), .int .i64 f] w fun e w' => e = .returned (.int .i64 (ofR n L f)) ∧ w = w' := by
  have c0 := hO.c0
  have hc : f < 0 ∨ (0 ≤ f ∧ (n : Int) ≤ f) ∨ (0 ≤ f ∧ f < (n : Int)) := by omega
  rcases hc with h | ⟨h, h2⟩ | ⟨h, h2⟩
  · have e : ofR n L f = -1 := by unfold ofR; rw [if_neg (by omega)]
    rw [e]; clear e hO
    go_enter Try.func29, Try.ntmps29
    go_wp2
    go_ret
    exact ⟨rfl, rfl⟩
  · have e : ofR n L f = -1 := by unfold ofR; rw [if_neg (by omega)]
    rw [e]; clear e hO
    go_enter Try.func29, Try.ntmps29
    go_wp2
    go_ret
    exact ⟨rfl, rfl⟩
  · obtain ⟨k, rfl⟩ := Int.eq_ofNat_of_zero_le h
    have hk : k < n := by omega
    have e : ofR n L (k : Int) = L k := by unfold ofR; rw [if_pos (by omega)]; rfl
    have ck := hO.cL hk
    rw [e]; clear e hO
    go_enter Try.func29, Try.ntmps29
    go_wp2
    go_ret
    exact ⟨rfl, rfl⟩
set_option maxRecDepth 100000 in
set_option maxHeartbeats 400000 in
theorem oCount (w : World) (o g n : Nat) (L M H : Nat → Int) (hO : OAt w o g n L M H) (hI : OInv n L M H) (x : Int) : Calls Try.prog 36 #[.pointer (some ⟨o, 0, none⟩), .int .i64 x] w fun e w' => e = .returned (.int .i64 (countR n L x)) ∧ w = w' := by
  unfold countR
  cases hm : mayB x with
  | false =>
    simp only [Bool.false_eq_true, if_false]
    clear hO hI
    go_enter Try.func36, Try.ntmps36
    go_wp2_with fail
    refine (oMay w x).mono ?_
    rintro _ w2 ⟨rfl, rfl⟩
    rw [hm]
    clear hm
    go_wp2
    go_ret
    exact ⟨rfl, rfl⟩
  | true =>
    obtain ⟨k, rfl, hk⟩ := mayB_out hm
    simp only [if_true]
    have ck := hO.cH hk
    rw [hI.hh k hk] at ck
    have hk8 : k ≤ 8 := by omega
    generalize ocnt L k n = y at *
    clear hO hI
    go_enter Try.func36, Try.ntmps36
    go_wp2_with fail
    refine (oMay w k).mono ?_
    rintro _ w2 ⟨rfl, rfl⟩
    rw [hm]
    clear hm
    go_wp2
    go_ret
    exact ⟨rfl, rfl⟩
end Go.Proofs.Ytfihnnijcaapkaa
