import Derived.Test.YtpkpdfljhpieaaaPb
namespace Go.Proofs.Ytpkpdfljhpieaaa
open Go.RowKit
set_option linter.unusedSimpArgs false
set_option linter.unusedVariables false
attribute [local go_sem] ob_alloc ob_drew ob_drewN ob_setCell ob_setBlock objSet_cells obMap_map obClock_map isMapI_map keyI_mk findI_nil findI_cons lookRes_some lookRes_none lookRes_some' lookRes_none' setBlock_alloc mapPut

theorem RAt.drew {w : World} {p : Nat} {S : Nat → Int} {R : Nat → Nat → Int} (h : RAt w p S R) : RAt w.drew p S R := h
theorem BAt.drew {w : World} {p : Nat} {S : Nat → Int} {R : Nat → Nat → Int} (h : BAt w p S R) : BAt w.drew p S R := h
theorem setCells9 (w : World) (p o : Nat) (f : Nat → Int) : w.setCells p o (blk (vU f) 9).toList = (((((((((w).setCell ⟨p, o, none⟩ (.int .u64 (f 0))).setCell ⟨p, o + 1, none⟩ (.int .u64 (f 1))).setCell ⟨p, o + 2, none⟩ (.int .u64 (f 2))).setCell ⟨p, o + 3, none⟩ (.int .u64 (f 3))).setCell ⟨p, o + 4, none⟩ (.int .u64 (f 4))).setCell ⟨p, o + 5, none⟩ (.int .u64 (f 5))).setCell ⟨p, o + 6, none⟩ (.int .u64 (f 6))).setCell ⟨p, o + 7, none⟩ (.int .u64 (f 7))).setCell ⟨p, o + 8, none⟩ (.int .u64 (f 8)) := rfl
/-! ### Save -/
def saveR (S : Nat → Int) (q : Int) : Int := if pOk q = true then if S q.toNat = 0 ∨ S q.toNat = 1 then 5 else 0 else 1
def saveS (S : Nat → Int) (R : Nat → Nat → Int) (q : Int) (f : Nat → Int) : Nat → Nat → Int := if pOk q = true then if S q.toNat = 0 ∨ S q.toNat = 1 then R else updG R q.toNat f else R
set_option maxRecDepth 100000 in
set_option maxRecDepth 100000 in
set_option maxHeartbeats 800000 in
theorem pSave (w : World) (p : Nat) (S : Nat → Int) (R : Nat → Nat → Int) (hB : BAt w p S R) (q : Int) (f : Nat → Int) : Calls Try.prog 28 #[.pointer (some ⟨p, 0, none⟩), .int .i64 q, .agg (blk (vU f) 9)] w fun o w' => o = .returned (.int .i64 (saveR S q)) ∧ BAt w' p S (saveS S R q f) ∧ Keep [p] w w' := by
  unfold saveR saveS
  obtain ⟨b, hb⟩ : ∃ b, b = w.heap.size := ⟨_, rfl⟩
  obtain ⟨w1, hw1⟩ : ∃ w1, w1 = w.alloc (.cells (blk (vU f) 9) 47) := ⟨_, rfl⟩
  have hk1 : Keep [p] w w1 := by rw [hw1]; exact (Keep.refl _ _).alloc _
  have hB1 : BAt w1 p S R := by rw [hw1]; exact al hB
  have hZ : ob w1 b = some (.cells (blk (vU f) 9) 47 (0, 0)) := by rw [hw1]; exact al_new _ _ hb
  have lp := ob_lt hB
  have nbp : p ≠ b := by omega
  have HB := Lib.hid hb
  have HW := Lib.hid hw1
  clear hb hw1 hB lp
  cases ho : pOk q with
  | false =>
    simp only [Bool.false_eq_true, if_false]
    go_enter Try.func28, Try.ntmps28
    go_wp2_with fail
    rw [← HW.out, ← HB.out]
    refine (pOf_no w1 p q ho).mono ?_
    rintro _ w2 ⟨rfl, rfl⟩
    have H2 := Lib.hid hB1
    clear ho hB1
    go_wp2
    go_ret
    exact ⟨rfl, H2.out, hk1⟩
  | true =>
    obtain ⟨n, rfl, hn⟩ := pOk_out ho
    have c0 := hB1.state n hn
    simp only [if_true, Int.toNat_natCast]
    by_cases hs : S n = 0 ∨ S n = 1
    · rw [if_pos hs, if_pos hs]
      have H2 := Lib.hid hB1
      rcases hs with hs | hs
      all_goals
        rw [hs] at c0
        clear hs hB1
        go_enter Try.func28, Try.ntmps28
        go_wp2_with fail
        rw [← HW.out, ← HB.out]
        refine (pOf_yes w1 p n hn).mono ?_
        rintro _ w2 ⟨rfl, rfl⟩
        clear ho
        go_wp2
        go_ret
        exact ⟨rfl, H2.out, hk1⟩
    · rw [if_neg hs, if_neg hs]
      have s0 : (S n == 0) = false := by simp; omega
      have s1 : (S n == 1) = false := by simp; omega
      have r1 := range_ob hZ
      have t1 := hB1.there n hn
      have H2 := Lib.hid (hB1.setR n hn f)
      have K2 := Lib.hid (hk1.setCells (.inl (by simp)) (b := p) (blk (vU f) 9).toList (n * 10 + 1))
      generalize S n = sn at *
      clear hs hB1
      go_enter Try.func28, Try.ntmps28
      go_wp2_with fail
      rw [← HW.out, ← HB.out]
      refine (pOf_yes w1 p n hn).mono ?_
      rintro _ w2 ⟨rfl, rfl⟩
      clear ho
      go_wp2_with (first
        | (refine wpList_load_mid rfl 47 (.tmp 5) rfl b 0 rfl (blk (vU f) 9).toList _ r1 Try.underlying47 rfl (len9 f) ?_)
        | (refine wpList_store_mid rfl 47 (.tmp 30) (.tmp 28) rfl p (n * 10 + 1) (blk (vU f) 9) rfl rfl (by rw [blk_size]; exact t1) (siz9 f) (one9 f) ?_))
      go_ret
      exact ⟨rfl, H2.out, K2.out⟩
set_option maxRecDepth 100000 in
set_option maxRecDepth 100000 in
set_option maxHeartbeats 800000 in
theorem rSave (w : World) (p : Nat) (S : Nat → Int) (R : Nat → Nat → Int) (hB : RAt w p S R) (hS : ∀ n, n < 8 → 0 ≤ S n) (q : Int) (f : Nat → Int) : Calls Try.prog 29 #[.pointer (some ⟨p, 0, none⟩), .int .i64 q, .agg (blk (vU f) 9)] w fun o w' => o = .returned (.int .i64 (saveR S q)) ∧ RAt w' p S (saveS S R q f) ∧ Keep [p] w w' := by
  unfold saveR saveS
  obtain ⟨b, hb⟩ : ∃ b, b = w.heap.size := ⟨_, rfl⟩
  obtain ⟨w1, hw1⟩ : ∃ w1, w1 = w.alloc (.cells (blk (vU f) 9) 47) := ⟨_, rfl⟩
  have hk1 : Keep [p] w w1 := by rw [hw1]; exact (Keep.refl _ _).alloc _
  have hB1 : RAt w1 p S R := by rw [hw1]; exact al hB
  have hZ : ob w1 b = some (.cells (blk (vU f) 9) 47 (0, 0)) := by rw [hw1]; exact al_new _ _ hb
  have lp := ob_lt hB
  have nbp : p ≠ b := by omega
  have HB := Lib.hid hb
  have HW := Lib.hid hw1
  clear hb hw1 hB
  cases ho : pOk q with
  | false =>
    simp only [Bool.false_eq_true, if_false]
    have H2 := Lib.hid hB1
    rcases pOk_no ho with h | ⟨h, h2⟩
    all_goals
      clear ho hB1
      go_enter Try.func29, Try.ntmps29
      go_wp2_with fail
      try rw [← HW.out]
      go_ret
      exact ⟨rfl, H2.out, hk1⟩
  | true =>
    obtain ⟨n, rfl, hn⟩ := pOk_out ho
    have hn7 : n ≤ 7 := by omega
    have c0 := hB1.state n hn
    have c00 : w.cell? ⟨p, n, none⟩ = some (.int .i64 (S n)) := by
      rw [← c0, HW.out, cell_ob, cell_ob, ob_alloc, if_neg (by omega)]
    have hs0 := hS n hn
    simp only [if_true, Int.toNat_natCast]
    by_cases hs : S n = 0 ∨ S n = 1
    · rw [if_pos hs, if_pos hs]
      have H2 := Lib.hid hB1
      have h2 : S n < 2 := by omega
      generalize S n = sn at *
      clear hs hB1 ho c0
      go_enter Try.func29, Try.ntmps29
      go_wp2_with fail
      try rw [← HW.out]
      go_ret
      exact ⟨rfl, H2.out, hk1⟩
    · rw [if_neg hs, if_neg hs]
      have h2 : ¬ S n < 2 := by omega
      have hBd : RAt w1.drew p S R := hB1
      have l0 : w1.cell? ⟨b, 0, none⟩ = some (.int .u64 (f 0)) := blk_cell hZ (by omega)
      have l1 : w1.cell? ⟨b, 1, none⟩ = some (.int .u64 (f 1)) := blk_cell hZ (by omega)
      have l2 : w1.cell? ⟨b, 2, none⟩ = some (.int .u64 (f 2)) := blk_cell hZ (by omega)
      have l3 : w1.cell? ⟨b, 3, none⟩ = some (.int .u64 (f 3)) := blk_cell hZ (by omega)
      have l4 : w1.cell? ⟨b, 4, none⟩ = some (.int .u64 (f 4)) := blk_cell hZ (by omega)
      have l5 : w1.cell? ⟨b, 5, none⟩ = some (.int .u64 (f 5)) := blk_cell hZ (by omega)
      have l6 : w1.cell? ⟨b, 6, none⟩ = some (.int .u64 (f 6)) := blk_cell hZ (by omega)
      have l7 : w1.cell? ⟨b, 7, none⟩ = some (.int .u64 (f 7)) := blk_cell hZ (by omega)
      have l8 : w1.cell? ⟨b, 8, none⟩ = some (.int .u64 (f 8)) := blk_cell hZ (by omega)
      obtain ⟨y0, t0⟩ : ∃ y, w1.cell? ⟨p, 8 + n * 9, none⟩ = some y := ⟨_, blk_cell hB1 (i := 8 + n * 9) (by omega)⟩
      obtain ⟨y1, t1⟩ : ∃ y, w1.cell? ⟨p, 8 + n * 9 + 1, none⟩ = some y := ⟨_, blk_cell hB1 (i := 8 + n * 9 + 1) (by omega)⟩
      obtain ⟨y2, t2⟩ : ∃ y, w1.cell? ⟨p, 8 + n * 9 + 2, none⟩ = some y := ⟨_, blk_cell hB1 (i := 8 + n * 9 + 2) (by omega)⟩
      obtain ⟨y3, t3⟩ : ∃ y, w1.cell? ⟨p, 8 + n * 9 + 3, none⟩ = some y := ⟨_, blk_cell hB1 (i := 8 + n * 9 + 3) (by omega)⟩
      obtain ⟨y4, t4⟩ : ∃ y, w1.cell? ⟨p, 8 + n * 9 + 4, none⟩ = some y := ⟨_, blk_cell hB1 (i := 8 + n * 9 + 4) (by omega)⟩
      obtain ⟨y5, t5⟩ : ∃ y, w1.cell? ⟨p, 8 + n * 9 + 5, none⟩ = some y := ⟨_, blk_cell hB1 (i := 8 + n * 9 + 5) (by omega)⟩
      obtain ⟨y6, t6⟩ : ∃ y, w1.cell? ⟨p, 8 + n * 9 + 6, none⟩ = some y := ⟨_, blk_cell hB1 (i := 8 + n * 9 + 6) (by omega)⟩
      obtain ⟨y7, t7⟩ : ∃ y, w1.cell? ⟨p, 8 + n * 9 + 7, none⟩ = some y := ⟨_, blk_cell hB1 (i := 8 + n * 9 + 7) (by omega)⟩
      obtain ⟨y8, t8⟩ : ∃ y, w1.cell? ⟨p, 8 + n * 9 + 8, none⟩ = some y := ⟨_, blk_cell hB1 (i := 8 + n * 9 + 8) (by omega)⟩
      have frp : ∀ i, w1.frozen? ⟨p, i, none⟩ = false := free_of_ob hB1
      have H2 := Lib.hid (And.intro (hB1.setR n hn f) (hk1.setCells (.inl (by simp)) (b := p) (blk (vU f) 9).toList (8 + n * 9)))
      obtain ⟨wz, hwz⟩ : ∃ wz, wz = w1.setCells p (8 + n * 9) (blk (vU f) 9).toList := ⟨_, rfl⟩
      rw [← hwz] at H2
      have HZ := Lib.hid hwz
      generalize S n = sn at *
      have j0 : (0 : Int) ≤ (n : Int) := by omega
      have j8 : (n : Int) < 8 := by omega
      clear hs hB1 ho c0 hBd hZ hk1 hwz
      go_enter Try.func29, Try.ntmps29
      go_wp2_with fail
      rw [← HW.out, ← HB.out]
      clear c00
      go_region
      all_goals
        go_wp2
        go_ret
        have h2 := H2.out
        rw [HZ.out, setCells9] at h2
        exact ⟨rfl, h2.1.drew, h2.2.drew⟩
end Go.Proofs.Ytpkpdfljhpieaaa
