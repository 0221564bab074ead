import Derived.Test.YtpkpdfljhpieaaaPd
namespace Go.Proofs.Ytpkpdfljhpieaaa
open Go.RowKit
set_option linter.unusedSimpArgs false
set_option linter.unusedVariables false
attribute [local go_sem] ob_alloc ob_drew ob_drewN ob_setCell ob_setBlock objSet_cells obMap_map obClock_map isMapI_map keyI_mk findI_nil findI_cons lookRes_some lookRes_none lookRes_some' lookRes_none' setBlock_alloc mapPut

set_option maxRecDepth 100000 in
set_option maxRecDepth 100000 in
set_option maxHeartbeats 800000 in
theorem rDo (w : World) (p : Nat) (S : Nat → Int) (R : Nat → Nat → Int) (hB : RAt w p S R) (q a : Int) : Calls Try.prog 31 #[.pointer (some ⟨p, 0, none⟩), .int .i64 q, .int .i64 a] w fun o w' => o = .returned (.int .i64 (doR S q a)) ∧ RAt w' p (doS S q a) (doG S R q a) ∧ Keep [p] w w' := by
  unfold doR doS doG
  have hk0 := Keep.refl [p] w
  cases ho : pOk q with
  | false =>
    simp only [Bool.false_eq_true, if_false]
    have H2 := Lib.hid hB
    rcases pOk_no ho with h | ⟨h, h2⟩
    all_goals
      clear ho hB
      go_enter Try.func31, Try.ntmps31
      go_wp2
      go_ret
      exact ⟨rfl, H2.out, hk0⟩
  | true =>
    obtain ⟨n, rfl, hn⟩ := pOk_out ho
    have hn7 : n ≤ 7 := by omega
    have c0 := hB.state n hn
    simp only [if_true, Int.toNat_natCast]
    obtain ⟨s, hs⟩ : ∃ s, s = S n := ⟨_, rfl⟩
    rw [← hs] at c0 ⊢
    obtain ⟨v, hv⟩ : ∃ v, v = nx s a := ⟨_, rfl⟩
    rw [← hv]
    have HV := Lib.hid hv
    have fr := free_of_ob hB
    have hB3 := hB.setS n hn v.1
    have t3 := hB3.there n hn
    have hk3 : Keep [p] w (w.setCell ⟨p, n, none⟩ (.int .i64 v.1)) := hk0.setCell (.inl (by simp)) _ _
    have H4 := Lib.hid (And.intro (hB3.setR n hn (fun _ => 0)) (hk3.setCells (.inl (by simp)) (b := p) (blk (vU fun _ => 0) 9).toList (8 + n * 9)))
    have H3 := Lib.hid (And.intro hB3 hk3)
    have H0 := Lib.hid hB
    have T3 := Lib.hid t3
    clear hs hv hB hB3 t3 hk3 ho
    by_cases h0 : v.2 = 0
    · rw [h0]
      by_cases ha : a = 1 ∨ a = 5
      · rw [if_pos rfl, if_pos ⟨rfl, ha⟩]
        rcases ha with rfl | rfl
        all_goals
          go_enter Try.func31, Try.ntmps31
          go_wp2_with fail
          refine (rNext w s _).mono ?_
          rintro _ w2 ⟨rfl, rfl⟩
          rw [← HV.out, h0]
          go_wp2_with (refine wpList_store_mid rfl 47 (.tmp 46) (.tmp 43) rfl p (8 + n * 9) (blk (vU fun _ => 0) 9) rfl rfl (by rw [blk_size]; exact T3.out) (siz9 _) (one9 _) ?_)
          go_ret
          exact ⟨rfl, H4.out.1, H4.out.2⟩
      · rw [if_pos rfl, if_neg (fun x => ha x.2)]
        have a1 : (a == 1) = false := by simp; omega
        have a5 : (a == 5) = false := by simp; omega
        clear ha
        go_enter Try.func31, Try.ntmps31
        go_wp2_with fail
        refine (rNext w s _).mono ?_
        rintro _ w2 ⟨rfl, rfl⟩
        rw [← HV.out, h0]
        go_wp2
        go_ret
        exact ⟨rfl, H3.out.1, H3.out.2⟩
    · rw [if_neg h0, if_neg (fun x => h0 x.1)]
      have h0' : (v.2 != 0) = true := by simpa using h0
      go_enter Try.func31, Try.ntmps31
      go_wp2_with fail
      refine (rNext w s _).mono ?_
      rintro _ w2 ⟨rfl, rfl⟩
      rw [← HV.out]
      clear h0
      go_wp2
      go_ret
      exact ⟨rfl, H0.out, hk0⟩

/-! ### Regs -/
def regF (R : Nat → Nat → Int) (q : Int) : Nat → Int := if pOk q = true then R q.toNat else fun _ => 0
def regE (q : Int) : Int := if pOk q = true then 0 else 1
theorem zero47 (w : World) (b : Nat) (h : b = w.heap.size) : ob (w.alloc (.cells #[.int .u64 0, .int .u64 0, .int .u64 0, .int .u64 0, .int .u64 0, .int .u64 0, .int .u64 0, .int .u64 0, .int .u64 0] 47)) b = some (.cells (blk (vU fun _ => 0) 9) 47 (0, 0)) := al_new _ _ h
set_option maxRecDepth 100000 in
set_option maxRecDepth 100000 in
set_option maxHeartbeats 800000 in
theorem pRegs (w : World) (p : Nat) (S : Nat → Int) (R : Nat → Nat → Int) (hB : BAt w p S R) (q : Int) : Calls Try.prog 32 #[.pointer (some ⟨p, 0, none⟩), .int .i64 q] w fun o w' => o = .returned (.tuple #[.agg (blk (vU (regF R q)) 9), .int .i64 (regE q)]) ∧ Keep [] w w' := by
  unfold regF regE
  obtain ⟨b, hb⟩ : ∃ b, b = w.heap.size := ⟨_, rfl⟩
  obtain ⟨w1, hw1⟩ : ∃ w1, w1 = w.alloc (.cells #[.int .u64 0, .int .u64 0, .int .u64 0, .int .u64 0, .int .u64 0, .int .u64 0, .int .u64 0, .int .u64 0, .int .u64 0] 47) := ⟨_, rfl⟩
  have hZ : ob w1 b = some (.cells (blk (vU fun _ => 0) 9) 47 (0, 0)) := by rw [hw1]; exact zero47 w b hb
  have hk1 : Keep [] w w1 := by rw [hw1]; exact (Keep.refl _ _).alloc _
  have hB1 : BAt w1 p S R := by rw [hw1]; exact al hB
  have lp := ob_lt hB
  have nbp : p ≠ b := by omega
  have hbw : w.heap.size ≤ b := by omega
  have HB := Lib.hid hb
  have HW := Lib.hid hw1
  clear hb hw1 hB lp
  cases ho : pOk q with
  | false =>
    simp only [Bool.false_eq_true, if_false]
    have H2 := Lib.hid (And.intro (store_blk (g := vU fun _ => 0) hZ) (hk1.setCells (.inr hbw) (b := b) (blk (vU fun _ => 0) 9).toList 0))
    have T2 := Lib.hid (blk_there hZ (o := 0) (k := 9) (by omega))
    clear hZ hk1 hB1
    go_enter Try.func32, Try.ntmps32
    go_wp2_with fail
    rw [show w.alloc (.cells #[.int .u64 0, .int .u64 0, .int .u64 0, .int .u64 0, .int .u64 0, .int .u64 0, .int .u64 0, .int .u64 0, .int .u64 0] 47) = w1 from HW.out.symm, ← HB.out]
    refine (pOf_no w1 p q ho).mono ?_
    rintro _ w2 ⟨rfl, rfl⟩
    clear ho
    go_wp2_with (refine wpList_store_mid rfl 47 (.tmp 4) (.tmp 12) rfl b 0 (blk (vU fun _ => 0) 9) rfl rfl (by rw [blk_size]; exact T2.out) (siz9 _) (one9 _) ?_)
    refine bodyPost_ret (ret_row_tmp (P := Try.prog) Try.results32 (cs := blk (vU fun _ => 0) 9) (t := 47) (fr := (0, 0)) (g := b) H2.out.1 rfl Try.underlying47 rfl (siz9 _)) rfl ?_
    exact ⟨rfl, H2.out.2⟩
  | true =>
    obtain ⟨n, rfl, hn⟩ := pOk_out ho
    simp only [if_true, Int.toNat_natCast]
    have H2 := Lib.hid (And.intro (store_blk (g := vU (R n)) hZ) (hk1.setCells (.inr hbw) (b := b) (blk (vU (R n)) 9).toList 0))
    have T2 := Lib.hid (blk_there hZ (o := 0) (k := 9) (by omega))
    have R2 := Lib.hid (hB1.regs n hn)
    clear hZ hk1 hB1
    go_enter Try.func32, Try.ntmps32
    go_wp2_with fail
    rw [show w.alloc (.cells #[.int .u64 0, .int .u64 0, .int .u64 0, .int .u64 0, .int .u64 0, .int .u64 0, .int .u64 0, .int .u64 0, .int .u64 0] 47) = w1 from HW.out.symm, ← HB.out]
    refine (pOf_yes w1 p n hn).mono ?_
    rintro _ w2 ⟨rfl, rfl⟩
    clear ho
    go_wp2_with (first
      | (refine wpList_load_mid rfl 47 (.tmp 15) rfl p (n * 10 + 1) rfl (blk (vU (R n)) 9).toList _ R2.out Try.underlying47 rfl (len9 _) ?_)
      | (refine wpList_store_mid rfl 47 (.tmp 4) (.tmp 16) rfl b 0 (blk (vU (R n)) 9) rfl rfl (by rw [blk_size]; exact T2.out) (siz9 _) (one9 _) ?_))
    refine bodyPost_ret (ret_row_tmp (P := Try.prog) Try.results32 (cs := blk (vU (R n)) 9) (t := 47) (fr := (0, 0)) (g := b) H2.out.1 rfl Try.underlying47 rfl (siz9 _)) rfl ?_
    exact ⟨rfl, H2.out.2⟩
set_option maxRecDepth 100000 in
set_option maxRecDepth 100000 in
set_option maxHeartbeats 800000 in
theorem rRegs (w : World) (p : Nat) (S : Nat → Int) (R : Nat → Nat → Int) (hB : RAt w p S R) (q : Int) : Calls Try.prog 33 #[.pointer (some ⟨p, 0, none⟩), .int .i64 q] w fun o w' => o = .returned (.tuple #[.agg (blk (vU (regF R q)) 9), .int .i64 (regE q)]) ∧ Keep [] w w' := by
  unfold regF regE
  obtain ⟨b, hb⟩ : ∃ b, b = w.heap.size := ⟨_, rfl⟩
  obtain ⟨w1, hw1⟩ : ∃ w1, w1 = w.alloc (.cells #[.int .u64 0, .int .u64 0, .int .u64 0, .int .u64 0, .int .u64 0, .int .u64 0, .int .u64 0, .int .u64 0, .int .u64 0] 47) := ⟨_, rfl⟩
  have hZ : ob w1 b = some (.cells (blk (vU fun _ => 0) 9) 47 (0, 0)) := by rw [hw1]; exact zero47 w b hb
  have hk1 : Keep [] w w1 := by rw [hw1]; exact (Keep.refl _ _).alloc _
  have hB1 : RAt w1 p S R := by rw [hw1]; exact al hB
  have hbw : w.heap.size ≤ b := by omega
  have HB := Lib.hid hb
  have HW := Lib.hid hw1
  clear hb hw1 hB
  cases ho : pOk q with
  | false =>
    simp only [Bool.false_eq_true, if_false]
    have H2 := Lib.hid (And.intro (store_blk (g := vU fun _ => 0) hZ) (hk1.setCells (.inr hbw) (b := b) (blk (vU fun _ => 0) 9).toList 0))
    have T2 := Lib.hid (blk_there hZ (o := 0) (k := 9) (by omega))
    clear hZ hk1 hB1
    rcases pOk_no ho with h | ⟨h, h2⟩
    all_goals
      clear ho
      go_enter Try.func33, Try.ntmps33
      go_wp2_with (rw [show w.alloc (.cells #[.int .u64 0, .int .u64 0, .int .u64 0, .int .u64 0, .int .u64 0, .int .u64 0, .int .u64 0, .int .u64 0, .int .u64 0] 47) = w1 from HW.out.symm, ← HB.out]; refine wpList_store_mid rfl 47 (.tmp 4) (.tmp 12) rfl b 0 (blk (vU fun _ => 0) 9) rfl rfl (by rw [blk_size]; exact T2.out) (siz9 _) (one9 _) ?_)
      refine bodyPost_ret (ret_row_tmp (P := Try.prog) Try.results33 (cs := blk (vU fun _ => 0) 9) (t := 47) (fr := (0, 0)) (g := b) H2.out.1 rfl Try.underlying47 rfl (siz9 _)) rfl ?_
      exact ⟨rfl, H2.out.2⟩
  | true =>
    obtain ⟨n, rfl, hn⟩ := pOk_out ho
    have hn7 : n ≤ 7 := by omega
    simp only [if_true, Int.toNat_natCast]
    have H2 := Lib.hid (And.intro (store_blk (g := vU (R n)) hZ) (hk1.setCells (.inr hbw) (b := b) (blk (vU (R n)) 9).toList 0))
    have T2 := Lib.hid (blk_there hZ (o := 0) (k := 9) (by omega))
    have R2 := Lib.hid (hB1.regs n hn)
    clear hZ hk1 hB1 ho
    go_enter Try.func33, Try.ntmps33
    go_wp2_with (first
      | (rw [show w.alloc (.cells #[.int .u64 0, .int .u64 0, .int .u64 0, .int .u64 0, .int .u64 0, .int .u64 0, .int .u64 0, .int .u64 0, .int .u64 0] 47) = w1 from HW.out.symm, ← HB.out]; refine wpList_load_mid rfl 47 (.tmp 17) rfl p (8 + n * 9) rfl (blk (vU (R n)) 9).toList _ R2.out Try.underlying47 rfl (len9 _) ?_)
      | (refine wpList_store_mid rfl 47 (.tmp 4) (.tmp 18) rfl b 0 (blk (vU (R n)) 9) rfl rfl (by rw [blk_size]; exact T2.out) (siz9 _) (one9 _) ?_))
    refine bodyPost_ret (ret_row_tmp (P := Try.prog) Try.results33 (cs := blk (vU (R n)) 9) (t := 47) (fr := (0, 0)) (g := b) H2.out.1 rfl Try.underlying47 rfl (siz9 _)) rfl ?_
    exact ⟨rfl, H2.out.2⟩
end Go.Proofs.Ytpkpdfljhpieaaa
