import Derived.Test.YtajlpicdkdeceaaDoorHn
namespace Go.Proofs.YtajlpicdkdeceaaDoor
open Go.RowKit
set_option linter.unusedSimpArgs false
set_option linter.unusedVariables false
attribute [local go_sem] ob_alloc ob_drew ob_drewN ob_setCell ob_setBlock objSet_cells obMap_map obClock_map isMapI_map keyI_mk findI_nil findI_cons lookRes_some lookRes_none lookRes_some' lookRes_none' setBlock_alloc mapPut
open Go.Lib

set_option maxRecDepth 100000 in
set_option maxHeartbeats 4000000 in
theorem texts12 (w : World) (i : IN) (s : ByteArray) (hwi : i.wf) (hE : Env w) : Calls Tryd.prog 3 #[inV i, .string s] w fun e w' => e = .returned (.bool true) ∧ Keep [] w w' := by
  have HW := Lib.hid (And.intro hwi hE)
  obtain ⟨a0, a1, a2, a3, a4, hVi, hCi⟩ := inV_lit i
  have HVi := Lib.hid hVi
  rw [hVi]
  have H1 := Lib.hid (And.intro ((Keep.refl [] w).alloc (.cells #[.int .i64 a0, .int .i64 a1, .int .i64 a2, .int .i64 a3, .int .i64 a4] 23)) (al_new w (.cells #[.int .i64 a0, .int .i64 a1, .int .i64 a2, .int .i64 a3, .int .i64 a4] 23) rfl))
  clear hwi hE hVi hCi
  go_enter Tryd.func3, Tryd.ntmps3
  go_wp2_with fail
  have h1 := H1.out
  clear H1
  generalize w.alloc (.cells #[.int .i64 a0, .int .i64 a1, .int .i64 a2, .int .i64 a3, .int .i64 a4] 23) = w1 at *
  generalize w.heap.size = bi at *
  have H1 := Lib.hid h1
  clear h1
  refine (pAwake w1 (HW.out.2.keep H1.out.1)).mono ?_
  rintro _ w2 ⟨rfl, hk2⟩
  have H2 := Lib.hid (And.intro (H1.out.1.trans hk2) (hk2.kp H1.out.2 (by simp)))
  clear H1 hk2
  by_cases hs2 : 200 < s.size
  · have hs3 : (200 : Int) < (s.size : Nat) := by omega
    go_wp2_with fail
    go_ret
    exact ⟨by trivial, H2.out.1⟩
  · have hs3 : ¬ (200 : Int) < (s.size : Nat) := by omega
    have hs4 : s.size ≤ 1000 := by omega
    have HS4 := Lib.hid hs4
    obtain ⟨c0, c1, c2, c3, c4, lc⟩ := rd_in H2.out.2
    clear hs2 hs4
    go_wp2_with fail
    rw [← HVi.out]
    refine (pText w2 i HW.out.1 (HW.out.2.keep H2.out.1)).mono ?_
    intro e w3 h3
    obtain ⟨hk3, a, k, rfl, ha, hk⟩ := text_ok h3
    rw [HVi.out]
    have H3 := Lib.hid (And.intro (H2.out.1.trans hk3) (hk3.kp H2.out.2 (by simp)))
    have HA := Lib.hid (And.intro ha hk)
    clear hs3 H2 hk3 h3 ha hk c0 c1 c2 c3 c4 lc
    obtain ⟨c0, c1, c2, c3, c4, lc⟩ := rd_in H3.out.2
    go_wp2_with fail
    rw [← HVi.out]
    refine (rText w3 i HW.out.1).mono ?_
    intro e w4 h4
    obtain ⟨hk4, b, k', rfl, hb, hk'⟩ := text_ok h4
    rw [HVi.out]
    obtain rfl : k = k' := HA.out.2.trans hk'.symm
    obtain rfl : a = b := HA.out.1.trans hb.symm
    have H4 := Lib.hid (H3.out.1.trans hk4)
    clear H3 hk4 h4 hb hk' HA c0 c1 c2 c3 c4 lc
    go_wp2_with fail
    refine (pRead w4 s HS4.out (HW.out.2.keep H4.out)).mono ?_
    intro e w5 h5
    obtain ⟨hk5, C, g, rfl, hC, hg⟩ := read_ok h5
    obtain ⟨d0, d1, d2, d3, d4, hVC, hCC⟩ := inV_lit C
    rw [hVC]
    have H5 := Lib.hid (And.intro ((H4.out.trans hk5).alloc (.cells #[.int .i64 d0, .int .i64 d1, .int .i64 d2, .int .i64 d3, .int .i64 d4] 23)) (al_new w5 (.cells #[.int .i64 d0, .int .i64 d1, .int .i64 d2, .int .i64 d3, .int .i64 d4] 23) rfl))
    have HC := Lib.hid (And.intro hC (And.intro hg (And.intro hVC hCC)))
    clear H4 hk5 h5 hC hg hVC hCC
    go_wp2_with fail
    have h5 := H5.out
    clear H5
    generalize w5.alloc (.cells #[.int .i64 d0, .int .i64 d1, .int .i64 d2, .int .i64 d3, .int .i64 d4] 23) = w6 at *
    generalize w5.heap.size = bc at *
    have H5 := Lib.hid h5
    clear h5
    refine (rRead w6 s HS4.out).mono ?_
    intro e w7 h7
    obtain ⟨hk7, D, h, rfl, hD, hh⟩ := read_ok h7
    obtain rfl : C = D := HC.out.1.trans hD.symm
    obtain rfl : g = h := HC.out.2.1.trans hh.symm
    rw [HC.out.2.2.1]
    have hne := eq_in C C
    have e1 : decide (C = C) = true := by simp
    rw [e1, HC.out.2.2.2] at hne
    have H7 := Lib.hid (And.intro ((H5.out.1.trans hk7).alloc (.cells #[.int .i64 d0, .int .i64 d1, .int .i64 d2, .int .i64 d3, .int .i64 d4] 23)) (hk7.kp H5.out.2 (by simp)))
    obtain ⟨c0, c1, c2, c3, c4, lc⟩ := rd_in H7.out.2
    clear H5 hk7 h7 hD hh e1 HC
    go_wp2_with fail
    go_ret
    exact ⟨ret_b (by simp), H7.out.1⟩
end Go.Proofs.YtajlpicdkdeceaaDoor
