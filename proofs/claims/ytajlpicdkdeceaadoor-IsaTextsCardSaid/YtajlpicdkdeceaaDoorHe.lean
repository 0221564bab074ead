import Derived.Test.YtajlpicdkdeceaaDoorHd
namespace Go.Proofs.YtajlpicdkdeceaaDoor
open Go.RowKit
set_option linter.unusedSimpArgs false
set_option linter.unusedVariables false
attribute [local go_sem] ob_alloc ob_drew ob_drewN ob_setCell ob_setBlock objSet_cells obMap_map obClock_map isMapI_map keyI_mk findI_nil findI_cons lookRes_some lookRes_none lookRes_some' lookRes_none' setBlock_alloc mapPut
open Go.Lib

/-- an instruction's cells -/
def cel (i : IN) : Array Value := #[.int .i64 i.op, .int .i64 i.a, .int .i64 i.b, .int .i64 i.c, .int .i64 i.im]
theorem eq_in (i j : IN) (w : World) : (binOp .eql 23 (.agg (cel i)) (.agg (cel j))).run Tryd.prog w = .ok (.bool (decide (i = j))) w := by
  have h := eql23 i.op i.a i.b i.c i.im j.op j.a j.b j.c j.im w
  have e : decide (i = j) = decide (i.op = j.op ∧ i.a = j.a ∧ i.b = j.b ∧ i.c = j.c ∧ i.im = j.im) := by
    rw [decide_eq_decide]
    obtain ⟨a, b, c, d, e⟩ := i
    obtain ⟨a', b', c', d', e'⟩ := j
    simp only [IN.mk.injEq]
  rw [e]
  exact h
theorem ne_in (i j : IN) (w : World) : (binOp .neq 23 (.agg (cel i)) (.agg (cel j))).run Tryd.prog w = .ok (.bool (!decide (i = j))) w := by
  have h := neq23 i.op i.a i.b i.c i.im j.op j.a j.b j.c j.im w
  have e : decide (i = j) = decide (i.op = j.op ∧ i.a = j.a ∧ i.b = j.b ∧ i.c = j.c ∧ i.im = j.im) := by
    rw [decide_eq_decide]
    obtain ⟨a, b, c, d, e⟩ := i
    obtain ⟨a', b', c', d', e'⟩ := j
    simp only [IN.mk.injEq]
  rw [e]
  exact h
/-- an instruction's block, read -/
theorem rd_in {w : World} {b : Nat} {a0 a1 a2 a3 a4 : Int} (h : ob w b = some (.cells #[.int .i64 a0, .int .i64 a1, .int .i64 a2, .int .i64 a3, .int .i64 a4] 23 (0, 0))) : w.cell? ⟨b, 0, none⟩ = some (.int .i64 a0) ∧ w.cell? ⟨b, 1, none⟩ = some (.int .i64 a1) ∧ w.cell? ⟨b, 2, none⟩ = some (.int .i64 a2) ∧ w.cell? ⟨b, 3, none⟩ = some (.int .i64 a3) ∧ w.cell? ⟨b, 4, none⟩ = some (.int .i64 a4) ∧ b < w.heap.size :=
  ⟨by rw [cell_of_ob h]; rfl, by rw [cell_of_ob h]; rfl, by rw [cell_of_ob h]; rfl, by rw [cell_of_ob h]; rfl, by rw [cell_of_ob h]; rfl, ob_lt h⟩
theorem word_ok {w : World} {i : IN} {e : Ending} {w' : World} (h : WordP w i e w') : Keep [] w w' ∧ ∃ x k : Int, e = .returned (.tuple #[.int .u64 x, .int .i64 k]) ∧ x = (if right i = true then word i else 0) ∧ k = (if right i = true then 0 else 1) := ⟨h.1, _, _, h.2, rfl, rfl⟩
theorem text_ok {w : World} {i : IN} {e : Ending} {w' : World} (h : TextPost w i e w') : Keep [] w w' ∧ ∃ (x : ByteArray) (k : Int), e = .returned (.tuple #[.string x, .int .i64 k]) ∧ x = (if right i = true then toB (text i) else ⟨#[]⟩) ∧ k = (if right i = true then 0 else 1) := ⟨h.1, _, _, h.2, rfl, rfl⟩
set_option maxRecDepth 100000 in
set_option maxHeartbeats 4000000 in
theorem one12 (w : World) (i j : IN) (hwi : i.wf) (hwj : j.wf) (hE : Env w) : Calls Tryd.prog 4 #[inV i, inV j] w fun e w' => e = .returned (.bool true) ∧ Keep [] w w' := by
  have HW := Lib.hid (And.intro hwi (And.intro hwj hE))
  have heq := eq_in i j
  unfold cel at heq
  obtain ⟨a0, ha0⟩ : ∃ x, i.op = x := ⟨_, rfl⟩
  obtain ⟨a1, ha1⟩ : ∃ x, i.a = x := ⟨_, rfl⟩
  obtain ⟨a2, ha2⟩ : ∃ x, i.b = x := ⟨_, rfl⟩
  obtain ⟨a3, ha3⟩ : ∃ x, i.c = x := ⟨_, rfl⟩
  obtain ⟨a4, ha4⟩ : ∃ x, i.im = x := ⟨_, rfl⟩
  obtain ⟨b0, hb0⟩ : ∃ x, j.op = x := ⟨_, rfl⟩
  obtain ⟨b1, hb1⟩ : ∃ x, j.a = x := ⟨_, rfl⟩
  obtain ⟨b2, hb2⟩ : ∃ x, j.b = x := ⟨_, rfl⟩
  obtain ⟨b3, hb3⟩ : ∃ x, j.c = x := ⟨_, rfl⟩
  obtain ⟨b4, hb4⟩ : ∃ x, j.im = x := ⟨_, rfl⟩
  rw [ha0, ha1, ha2, ha3, ha4, hb0, hb1, hb2, hb3, hb4] at heq
  have hVi : inV i = .agg #[.int .i64 a0, .int .i64 a1, .int .i64 a2, .int .i64 a3, .int .i64 a4] := by unfold inV; rw [ha0, ha1, ha2, ha3, ha4]
  have hVj : inV j = .agg #[.int .i64 b0, .int .i64 b1, .int .i64 b2, .int .i64 b3, .int .i64 b4] := by unfold inV; rw [hb0, hb1, hb2, hb3, hb4]
  have HVi := Lib.hid hVi
  have HVj := Lib.hid hVj
  rw [hVi, hVj]
  have k1 : Keep [] w (w.alloc (.cells #[.int .i64 a0, .int .i64 a1, .int .i64 a2, .int .i64 a3, .int .i64 a4] 23)) := (Keep.refl _ _).alloc _
  have s1 : (w.alloc (.cells #[.int .i64 a0, .int .i64 a1, .int .i64 a2, .int .i64 a3, .int .i64 a4] 23)).heap.size = w.heap.size + 1 := by simp
  have o1 := al_new w (.cells #[.int .i64 a0, .int .i64 a1, .int .i64 a2, .int .i64 a3, .int .i64 a4] 23) rfl
  have k2 : Keep [] (w.alloc (.cells #[.int .i64 a0, .int .i64 a1, .int .i64 a2, .int .i64 a3, .int .i64 a4] 23)) ((w.alloc (.cells #[.int .i64 a0, .int .i64 a1, .int .i64 a2, .int .i64 a3, .int .i64 a4] 23)).alloc (.cells #[.int .i64 b0, .int .i64 b1, .int .i64 b2, .int .i64 b3, .int .i64 b4] 23)) := (Keep.refl _ _).alloc _
  have o2 := al_new (w.alloc (.cells #[.int .i64 a0, .int .i64 a1, .int .i64 a2, .int .i64 a3, .int .i64 a4] 23)) (.cells #[.int .i64 b0, .int .i64 b1, .int .i64 b2, .int .i64 b3, .int .i64 b4] 23) rfl
  rw [s1] at o2
  have H2 := Lib.hid (And.intro (k1.trans k2) (And.intro (k2.kp o1 (by simp)) o2))
  have HQ := Lib.hid heq
  clear k1 s1 o1 k2 o2 heq ha0 ha1 ha2 ha3 ha4 hb0 hb1 hb2 hb3 hb4 hVi hVj hwi hwj hE
  go_enter Tryd.func4, Tryd.ntmps4
  go_wp2_with fail
  have h2 := H2.out
  clear H2
  generalize ((w.alloc (.cells #[.int .i64 a0, .int .i64 a1, .int .i64 a2, .int .i64 a3, .int .i64 a4] 23)).alloc (.cells #[.int .i64 b0, .int .i64 b1, .int .i64 b2, .int .i64 b3, .int .i64 b4] 23)) = w2 at *
  obtain ⟨bi, hbi⟩ : ∃ b, w.heap.size = b := ⟨_, rfl⟩
  rw [hbi] at h2
  simp only [hbi]
  clear hbi
  obtain ⟨bj, hbj⟩ : ∃ b, bi + 1 = b := ⟨_, rfl⟩
  rw [hbj] at h2
  simp only [hbj]
  clear hbj
  have H2 := Lib.hid h2
  clear h2
  refine (pAwake w2 (HW.out.2.2.keep H2.out.1)).mono ?_
  rintro _ w3 ⟨rfl, hk3⟩
  have H3 := Lib.hid (And.intro (H2.out.1.trans hk3) (And.intro (hk3.kp H2.out.2.1 (by simp)) (hk3.kp H2.out.2.2 (by simp))))
  clear H2 hk3
  obtain ⟨c0, c1, c2, c3, c4, lc⟩ := rd_in H3.out.2.1
  go_wp2_with fail
  rw [← HVi.out]
  refine (pWord w3 i HW.out.1).mono ?_
  intro e w4 h4
  obtain ⟨hk4, x, k, rfl, hx, hk⟩ := word_ok h4
  rw [HVi.out]
  have H4 := Lib.hid (And.intro (H3.out.1.trans hk4) (And.intro (hk4.kp H3.out.2.1 (by simp)) (hk4.kp H3.out.2.2 (by simp))))
  have HX := Lib.hid (And.intro hx hk)
  clear H3 hk4 h4 hx hk c0 c1 c2 c3 c4 lc
  obtain ⟨c0, c1, c2, c3, c4, lc⟩ := rd_in H4.out.2.2
  go_wp2_with fail
  rw [← HVj.out]
  refine (pWord w4 j HW.out.2.1).mono ?_
  intro e w5 h5
  obtain ⟨hk5, y, l, rfl, hy, hl⟩ := word_ok h5
  rw [HVj.out]
  have H5 := Lib.hid (And.intro (H4.out.1.trans hk5) (And.intro (hk5.kp H4.out.2.1 (by simp)) (hk5.kp H4.out.2.2 (by simp))))
  have HY := Lib.hid (And.intro hy hl)
  clear H4 hk5 h5 hy hl c0 c1 c2 c3 c4 lc
  obtain ⟨c0, c1, c2, c3, c4, lc⟩ := rd_in H5.out.2.1
  go_wp2_with fail
  rw [← HVi.out]
  refine (pText w5 i HW.out.1 (HW.out.2.2.keep H5.out.1)).mono ?_
  intro e w6 h6
  obtain ⟨hk6, s, k', rfl, hs, hk'⟩ := text_ok h6
  rw [HVi.out]
  have H6 := Lib.hid (And.intro (H5.out.1.trans hk6) (And.intro (hk6.kp H5.out.2.1 (by simp)) (hk6.kp H5.out.2.2 (by simp))))
  have HS := Lib.hid hs
  clear H5 hk6 h6 hs hk' c0 c1 c2 c3 c4 lc
  obtain ⟨c0, c1, c2, c3, c4, lc⟩ := rd_in H6.out.2.2
  go_wp2_with fail
  rw [← HVj.out]
  refine (pText w6 j HW.out.2.1 (HW.out.2.2.keep H6.out.1)).mono ?_
  intro e w7 h7
  obtain ⟨hk7, t, l', rfl, ht, hl'⟩ := text_ok h7
  rw [HVj.out]
  have H7 := Lib.hid (And.intro (H6.out.1.trans hk7) (And.intro (hk7.kp H6.out.2.1 (by simp)) (hk7.kp H6.out.2.2 (by simp))))
  have HT := Lib.hid ht
  clear H6 hk7 h7 ht hl' c0 c1 c2 c3 c4 lc
  have HKF := Lib.hid H7.out.1
  cases hri : right i with
  | false =>
    have hk1 : k = 1 := by rw [HX.out.2, hri]; rfl
    subst hk1
    clear hri
    go_wp2_with fail
    go_ret
    exact ⟨by trivial, HKF.out⟩
  | true =>
    have hk0 : k = 0 := by rw [HX.out.2, hri]; rfl
    subst hk0
    cases hrj : right j with
    | false =>
      have hl1 : l = 1 := by rw [HY.out.2, hrj]; rfl
      subst hl1
      clear hri hrj
      go_wp2_with fail
      go_ret
      exact ⟨by trivial, HKF.out⟩
    | true =>
      have hl0 : l = 0 := by rw [HY.out.2, hrj]; rfl
      subst hl0
      have hxe : x = word i := by rw [HX.out.1, hri]; rfl
      have hye : y = word j := by rw [HY.out.1, hrj]; rfl
      have hse : s = toB (text i) := by rw [HS.out, hri]; rfl
      have hte : t = toB (text j) := by rw [HT.out, hrj]; rfl
      obtain ⟨B, hB⟩ : ∃ B, decide (i = j) = B := ⟨_, rfl⟩
      have hxy : (x == y) = B := by
        rw [← hB, hxe, hye]
        by_cases e : i = j
        · subst e; simp
        · have : word i ≠ word j := fun h => e (word_inj hri hrj h)
          simp [e, this]
      have hst : (s.toList == t.toList) = B := by
        rw [← hB, hse, hte, ByteArray.toList_eq, ByteArray.toList_eq]
        show (text i == text j) = decide (i = j)
        by_cases e : i = j
        · subst e; simp
        · have : text i ≠ text j := fun h => e (text_inj hri hrj h)
          simp [e, this]
      have hq := HQ.out
      rw [hB] at hq
      obtain ⟨c0, c1, c2, c3, c4, lc⟩ := rd_in H7.out.2.1
      obtain ⟨d0, d1, d2, d3, d4, ld⟩ := rd_in H7.out.2.2
      clear hxe hye hse hte hri hrj hB HQ H7
      cases B
      all_goals
        go_wp2_with fail
        go_ret
        exact ⟨by trivial, HKF.out⟩
end Go.Proofs.YtajlpicdkdeceaaDoor
