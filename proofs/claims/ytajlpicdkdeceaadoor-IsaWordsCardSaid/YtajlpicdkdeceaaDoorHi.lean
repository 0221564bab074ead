import Derived.Test.YtajlpicdkdeceaaDoorHh
namespace Go.Proofs.YtajlpicdkdeceaaDoor
open Go.RowKit
set_option linter.unusedSimpArgs false
set_option linter.unusedVariables false
attribute [local go_sem] ob_alloc ob_drew ob_drewN ob_setCell ob_setBlock objSet_cells obMap_map obClock_map isMapI_map keyI_mk findI_nil findI_cons lookRes_some lookRes_none lookRes_some' lookRes_none' setBlock_alloc mapPut
open Go.Lib

set_option maxRecDepth 100000 in
set_option maxHeartbeats 4000000 in
theorem rOf (w : World) (x : Nat) (hx : x < 2 ^ 64) : Calls Tryd.prog 15 #[.int .u64 x] w (OfP w (decW x)) := by
  obtain ⟨I, hI⟩ : ∃ I, cutW (x : Int) = I := ⟨_, rfl⟩
  have hIw : I.wf := fun q => by
    rw [← hI, cut_f]
    match q with
    | 0 => have := cutF_le x 0; simp only [IN.f]; omega
    | 1 => have := cutF_le x 1; simp only [IN.f]; omega
    | 2 => have := cutF_le x 2; simp only [IN.f]; omega
    | 3 => have := cutF_le x 3; simp only [IN.f]; omega
    | _ + 4 => have := cutF_le x 4; simp only [IN.f]; omega
  have hx64 : (x : Int) ≤ 18446744073709551615 := fit64 hx
  have HI := Lib.hid (And.intro hI hIw)
  have HA := Lib.hid (And.intro ((Keep.refl [] w).alloc (.cells #[.int .i64 0, .int .i64 0, .int .i64 0, .int .i64 0, .int .i64 0] 23)) (al_new w (.cells #[.int .i64 0, .int .i64 0, .int .i64 0, .int .i64 0, .int .i64 0] 23) rfl))
  clear hI hIw
  go_enter Tryd.func15, Tryd.ntmps15
  go_upto_region 1 with fail
  have hA := HA.out
  clear HA
  obtain ⟨rb, hrb⟩ : ∃ rb, w.heap.size = rb := ⟨_, rfl⟩
  have HRE := Lib.hid hrb
  rw [hrb] at hA
  try simp only [hrb]
  clear hrb
  generalize w.alloc (.cells #[.int .i64 0, .int .i64 0, .int .i64 0, .int .i64 0, .int .i64 0] 23) = w1 at *
  have HA := Lib.hid hA
  clear hA
  go_wp2_with fail
  obtain ⟨x0, h0⟩ : ∃ z, (x : Int) % 256 = z := ⟨_, rfl⟩
  obtain ⟨x1, h1⟩ : ∃ z, (x : Int) / 256 % 8 = z := ⟨_, rfl⟩
  obtain ⟨x2, h2⟩ : ∃ z, (x : Int) / 2048 % 8 = z := ⟨_, rfl⟩
  obtain ⟨x3, h3⟩ : ∃ z, (x : Int) / 16384 % 8 = z := ⟨_, rfl⟩
  obtain ⟨x4, h4⟩ : ∃ z, (x : Int) / 16777216 % 65536 = z := ⟨_, rfl⟩
  have hV : inV I = .agg #[.int .i64 x0, .int .i64 x1, .int .i64 x2, .int .i64 x3, .int .i64 x4] := by
    rw [← HI.out.1, ← h0, ← h1, ← h2, ← h3, ← h4]; rfl
  have HIV := Lib.hid hV
  simp only [h0, h1, h2, h3, h4]
  clear h0 h1 h2 h3 h4 hV
  have hB := (Keep.refl [] w1).alloc (.cells #[.int .i64 x0, .int .i64 x1, .int .i64 x2, .int .i64 x3, .int .i64 x4] 23)
  have HA2 := Lib.hid (And.intro (HA.out.1.trans hB) (And.intro (hB.kp HA.out.2 (by simp)) (al_new w1 (.cells #[.int .i64 x0, .int .i64 x1, .int .i64 x2, .int .i64 x3, .int .i64 x4] 23) rfl)))
  clear hB HA
  generalize w1.alloc (.cells #[.int .i64 x0, .int .i64 x1, .int .i64 x2, .int .i64 x3, .int .i64 x4] 23) = w16 at *
  generalize w1.heap.size = ci at *
  rw [← HIV.out]
  refine (rWord w16 I HI.out.2).mono ?_
  rintro e w17 ⟨hk17, he⟩
  have HRB : Hid (ob w17 rb = some (.cells (blk (vI fun _ => 0) 5) 23 (0, 0))) := Lib.hid (hk17.kp HA2.out.2.1 (by simp))
  have HKF := Lib.hid (HA2.out.1.trans hk17)
  have hci := hk17.kp HA2.out.2.2 (by simp)
  clear hk17
  cases hr : right I with
  | false =>
    have HD : Hid (decW x = none) := Lib.hid (by unfold decW; rw [HI.out.1, hr]; simp)
    rw [hr] at he
    simp only [Bool.false_eq_true, if_false] at he
    subst he
    rw [HIV.out]
    clear hr hci
    go_wp2_with (refine wpList_store_mid rfl 23 (.tmp 2) (.tmp 39) rfl rb 0 (blk (vI fun _ => 0) 5) rfl rfl (blk_there HRB.out (by rw [blk_size]; omega)) (by rw [size23, blk_size]) (blk_all _ _ (fun i _ => rfl)) ?_)
    refine bodyPost_ret (ret_row_tmp (P := Tryd.prog) Tryd.results15 (cs := blk (vI fun _ => 0) 5) (t := 23) (fr := (0, 0)) (g := rb) (store_blk HRB.out) rfl Tryd.underlying23 rfl (by rw [size23, blk_size])) rfl ?_
    exact ⟨HKF.out.setCells (.inr (by have := HRE.out; omega)) _ _, by rw [HD.out]; rfl⟩
  | true =>
    have HR := Lib.hid hr
    rw [hr] at he
    simp only [if_true] at he
    subst he
    rw [HIV.out]
    clear hr
    by_cases hts : word I = x
    · have HD : Hid (decW x = some I) := Lib.hid (by unfold decW; rw [HI.out.1]; rw [if_pos ⟨HR.out, hts⟩])
      rw [hts]
      obtain ⟨r0, r1, r2, r3, r4, lc⟩ := rd_in hci
      clear hts hci
      go_wp2_with (refine wpList_store_mid rfl 23 (.tmp 2) (.tmp 40) rfl rb 0 (blk (vI (fun q => if q = 0 then x0 else if q = 1 then x1 else if q = 2 then x2 else if q = 3 then x3 else x4)) 5) rfl rfl (blk_there HRB.out (by rw [blk_size]; omega)) (by rw [size23, blk_size]) (blk_all _ _ (fun i _ => rfl)) ?_)
      refine bodyPost_ret (ret_row_tmp (P := Tryd.prog) Tryd.results15 (cs := blk (vI (fun q => if q = 0 then x0 else if q = 1 then x1 else if q = 2 then x2 else if q = 3 then x3 else x4)) 5) (t := 23) (fr := (0, 0)) (g := rb) (store_blk HRB.out) rfl Tryd.underlying23 rfl (by rw [size23, blk_size])) rfl ?_
      exact ⟨HKF.out.setCells (.inr (by have := HRE.out; omega)) _ _, by rw [HD.out]; simp only [Option.getD_some]; rw [HIV.out]; rfl⟩
    · have HD : Hid (decW x = none) := Lib.hid (by unfold decW; rw [HI.out.1, if_neg (fun h => hts h.2)])
      have hne2 : (word I == (x : Int)) = false := by simpa using hts
      have hne3 : (word I != (x : Int)) = true := by simpa using hts
      generalize word I = tb at *
      clear hci
      go_wp2_with (refine wpList_store_mid rfl 23 (.tmp 2) (.tmp 39) rfl rb 0 (blk (vI fun _ => 0) 5) rfl rfl (blk_there HRB.out (by rw [blk_size]; omega)) (by rw [size23, blk_size]) (blk_all _ _ (fun i _ => rfl)) ?_)
      refine bodyPost_ret (ret_row_tmp (P := Tryd.prog) Tryd.results15 (cs := blk (vI fun _ => 0) 5) (t := 23) (fr := (0, 0)) (g := rb) (store_blk HRB.out) rfl Tryd.underlying23 rfl (by rw [size23, blk_size])) rfl ?_
      exact ⟨HKF.out.setCells (.inr (by have := HRE.out; omega)) _ _, by rw [HD.out]; rfl⟩
set_option maxRecDepth 100000 in
set_option maxHeartbeats 4000000 in
theorem words12 (w : World) (i : IN) (x : Nat) (hwi : i.wf) (hx : x < 2 ^ 64) (hE : Env w) : Calls Tryd.prog 5 #[inV i, .int .u64 x] w fun e w' => e = .returned (.bool true) ∧ Keep [] w w' := by
  have HW := Lib.hid (And.intro hwi hE)
  obtain ⟨a0, a1, a2, a3, a4, hVi, hCi⟩ := inV_lit i
  have HVi := Lib.hid hVi
  rw [hVi]
  have H1 := Lib.hid (And.intro ((Keep.refl [] w).alloc (.cells #[.int .i64 a0, .int .i64 a1, .int .i64 a2, .int .i64 a3, .int .i64 a4] 23)) (al_new w (.cells #[.int .i64 a0, .int .i64 a1, .int .i64 a2, .int .i64 a3, .int .i64 a4] 23) rfl))
  clear hwi hE hVi hCi
  go_enter Tryd.func5, Tryd.ntmps5
  go_wp2_with fail
  have h1 := H1.out
  clear H1
  generalize w.alloc (.cells #[.int .i64 a0, .int .i64 a1, .int .i64 a2, .int .i64 a3, .int .i64 a4] 23) = w1 at *
  generalize w.heap.size = bi at *
  have H1 := Lib.hid h1
  clear h1
  refine (pAwake w1 (HW.out.2.keep H1.out.1)).mono ?_
  rintro _ w2 ⟨rfl, hk2⟩
  have H2 := Lib.hid (And.intro (H1.out.1.trans hk2) (hk2.kp H1.out.2 (by simp)))
  clear H1 hk2
  obtain ⟨c0, c1, c2, c3, c4, lc⟩ := rd_in H2.out.2
  go_wp2_with fail
  rw [← HVi.out]
  refine (pWord w2 i HW.out.1).mono ?_
  intro e w3 h3
  obtain ⟨hk3, a, k, rfl, ha, hk⟩ := word_ok h3
  rw [HVi.out]
  have H3 := Lib.hid (And.intro (H2.out.1.trans hk3) (hk3.kp H2.out.2 (by simp)))
  have HA := Lib.hid (And.intro ha hk)
  clear H2 hk3 h3 ha hk c0 c1 c2 c3 c4 lc
  obtain ⟨c0, c1, c2, c3, c4, lc⟩ := rd_in H3.out.2
  go_wp2_with fail
  rw [← HVi.out]
  refine (rWord w3 i HW.out.1).mono ?_
  intro e w4 h4
  obtain ⟨hk4, b, k', rfl, hb, hk'⟩ := word_ok h4
  rw [HVi.out]
  obtain rfl : k = k' := HA.out.2.trans hk'.symm
  obtain rfl : a = b := HA.out.1.trans hb.symm
  have H4 := Lib.hid (H3.out.1.trans hk4)
  clear H3 hk4 h4 hb hk' HA c0 c1 c2 c3 c4 lc
  go_wp2_with fail
  refine (pOf w4 x hx).mono ?_
  intro e w5 h5
  obtain ⟨hk5, C, g, rfl, hC, hg⟩ := of_ok h5
  obtain ⟨d0, d1, d2, d3, d4, hVC, hCC⟩ := inV_lit C
  rw [hVC]
  have H5 := Lib.hid (And.intro ((H4.out.trans hk5).alloc (.cells #[.int .i64 d0, .int .i64 d1, .int .i64 d2, .int .i64 d3, .int .i64 d4] 23)) (al_new w5 (.cells #[.int .i64 d0, .int .i64 d1, .int .i64 d2, .int .i64 d3, .int .i64 d4] 23) rfl))
  have HC := Lib.hid (And.intro hC (And.intro hg (And.intro hVC hCC)))
  clear H4 hk5 h5 hC hg hVC hCC
  go_wp2_with fail
  have h5 := H5.out
  clear H5
  generalize w5.alloc (.cells #[.int .i64 d0, .int .i64 d1, .int .i64 d2, .int .i64 d3, .int .i64 d4] 23) = w6 at *
  generalize w5.heap.size = bc at *
  have H5 := Lib.hid h5
  clear h5
  refine (rOf w6 x hx).mono ?_
  intro e w7 h7
  obtain ⟨hk7, D, h, rfl, hD, hh⟩ := of_ok h7
  obtain rfl : C = D := HC.out.1.trans hD.symm
  obtain rfl : g = h := HC.out.2.1.trans hh.symm
  rw [HC.out.2.2.1]
  have hne := eq_in C C
  have e1 : decide (C = C) = true := by simp
  rw [e1, HC.out.2.2.2] at hne
  have H7 := Lib.hid (And.intro ((H5.out.1.trans hk7).alloc (.cells #[.int .i64 d0, .int .i64 d1, .int .i64 d2, .int .i64 d3, .int .i64 d4] 23)) (hk7.kp H5.out.2 (by simp)))
  obtain ⟨c0, c1, c2, c3, c4, lc⟩ := rd_in H7.out.2
  clear H5 hk7 h7 hD hh e1 HC
  go_wp2_with fail
  go_ret
  exact ⟨ret_b (by simp), H7.out.1⟩
end Go.Proofs.YtajlpicdkdeceaaDoor
