import Derived.Test.YtajlpicdkdeceaaDoorHe
namespace Go.Proofs.YtajlpicdkdeceaaDoor
open Go.RowKit
set_option linter.unusedSimpArgs false
set_option linter.unusedVariables false
attribute [local go_sem] ob_alloc ob_drew ob_drewN ob_setCell ob_setBlock objSet_cells obMap_map obClock_map isMapI_map keyI_mk findI_nil findI_cons lookRes_some lookRes_none lookRes_some' lookRes_none' setBlock_alloc mapPut
open Go.Lib

theorem inV_lit (i : IN) : ∃ a0 a1 a2 a3 a4 : Int, inV i = .agg #[.int .i64 a0, .int .i64 a1, .int .i64 a2, .int .i64 a3, .int .i64 a4] ∧ cel i = #[.int .i64 a0, .int .i64 a1, .int .i64 a2, .int .i64 a3, .int .i64 a4] := ⟨_, _, _, _, _, rfl, rfl⟩
theorem wf_right {i : IN} (h : right i = true) : i.wf := fun q => by
  obtain ⟨h0, h1, h2, h3, h4⟩ := right_bd h
  match q with
  | 0 => simp only [IN.f]; omega
  | 1 => simp only [IN.f]; omega
  | 2 => simp only [IN.f]; omega
  | 3 => simp only [IN.f]; omega
  | _ + 4 => simp only [IN.f]; omega
theorem wf_zero : zeroIN.wf := fun q => by
  match q with
  | 0 | 1 | 2 | 3 => decide
  | _ + 4 => exact (by decide : -9223372036854775808 ≤ (0 : Int) ∧ (0 : Int) ≤ 9223372036854775807)
theorem decW_ok {x : Int} {i : IN} (h : decW x = some i) : right i = true ∧ word i = x := by
  unfold decW at h
  split at h
  · rename_i hc
    rw [Option.some.inj h] at hc
    exact hc
  · cases h
theorem wf_decW (x : Int) : ((decW x).getD zeroIN).wf := by
  cases h : decW x with
  | none => exact wf_zero
  | some i => exact wf_right (decW_ok h).1
theorem wf_decT (s : List UInt8) : ((decT s).getD zeroIN).wf := by
  cases h : decT s with
  | none => exact wf_zero
  | some i => exact wf_right (decT_ok h).1
theorem read_ok {w : World} {r : Option IN} {e : Ending} {w' : World} (h : ReadP w r e w') : Keep [] w w' ∧ ∃ (I : IN) (k : Int), e = .returned (.tuple #[inV I, .int .i64 k]) ∧ I = r.getD zeroIN ∧ k = (if r.isSome = true then 0 else 11) := ⟨h.1, _, _, h.2, rfl, rfl⟩
theorem of_ok {w : World} {r : Option IN} {e : Ending} {w' : World} (h : OfP w r e w') : Keep [] w w' ∧ ∃ (I : IN) (k : Int), e = .returned (.tuple #[inV I, .int .i64 k]) ∧ I = r.getD zeroIN ∧ k = (if r.isSome = true then 0 else 11) := ⟨h.1, _, _, h.2, rfl, rfl⟩
theorem toB_size {i : IN} (h : right i = true) : (toB (text i)).size ≤ 1000 := by
  have := text_len h
  unfold toB
  have e : (text i).toArray.size = (text i).length := by simp
  show (text i).toArray.size ≤ 1000
  omega
set_option maxRecDepth 100000 in
set_option maxHeartbeats 4000000 in
/-- the second half: what is read has just that word, or text -/
theorem back12 (w : World) (i : IN) (x : Nat) (s : ByteArray) (hwi : i.wf) (hx : x < 2 ^ 64) (hE : Env w) : Calls Tryd.prog 6 #[inV i, .int .u64 x, .string s] w fun e w' => e = .returned (.bool true) ∧ Keep [] w w' := by
  have HW := Lib.hid (And.intro hwi hE)
  have hne := ne_in i i
  have e1 : decide (i = i) = true := by simp
  rw [e1] at hne
  obtain ⟨a0, a1, a2, a3, a4, hVi, hCi⟩ := inV_lit i
  rw [hCi] at hne
  simp only [Bool.not_true] at hne
  have HVi := Lib.hid hVi
  rw [hVi]
  have H1 := Lib.hid (And.intro ((Keep.refl [] w).alloc (.cells #[.int .i64 a0, .int .i64 a1, .int .i64 a2, .int .i64 a3, .int .i64 a4] 23)) (al_new w (.cells #[.int .i64 a0, .int .i64 a1, .int .i64 a2, .int .i64 a3, .int .i64 a4] 23) rfl))
  have HNE := Lib.hid hne
  clear hwi hE hVi hCi e1 hne
  go_enter Tryd.func6, Tryd.ntmps6
  go_wp2_with fail
  have h1 := H1.out
  clear H1
  generalize w.alloc (.cells #[.int .i64 a0, .int .i64 a1, .int .i64 a2, .int .i64 a3, .int .i64 a4] 23) = w1 at *
  generalize w.heap.size = bi at *
  have H1 := Lib.hid h1
  clear h1
  refine (pAwake w1 (HW.out.2.keep H1.out.1)).mono ?_
  rintro _ w2 ⟨rfl, hk2⟩
  have H2 := Lib.hid (And.intro (H1.out.1.trans hk2) (hk2.kp H1.out.2 (by simp)))
  clear H1 hk2
  by_cases hs2 : 200 < s.size
  · have hs3 : (200 : Int) < (s.size : Nat) := by omega
    go_wp2_with fail
    go_ret
    exact ⟨by trivial, H2.out.1⟩
  · have hs3 : ¬ (200 : Int) < (s.size : Nat) := by omega
    have hs4 : s.size ≤ 1000 := by omega
    have HS4 := Lib.hid hs4
    obtain ⟨c0, c1, c2, c3, c4, lc⟩ := rd_in H2.out.2
    clear hs2 hs4
    go_wp2_with fail
    rw [← HVi.out]
    refine (pWord w2 i HW.out.1).mono ?_
    intro e w3 h3
    obtain ⟨hk3, a, k, rfl, ha, hk⟩ := word_ok h3
    rw [HVi.out]
    have H3 := Lib.hid (And.intro (H2.out.1.trans hk3) (hk3.kp H2.out.2 (by simp)))
    have HA := Lib.hid (And.intro ha hk)
    clear hs3 H2 hk3 h3 ha hk c0 c1 c2 c3 c4 lc
    obtain ⟨c0, c1, c2, c3, c4, lc⟩ := rd_in H3.out.2
    go_wp2_with fail
    rw [← HVi.out]
    refine (pText w3 i HW.out.1 (HW.out.2.keep H3.out.1)).mono ?_
    intro e w4 h4
    obtain ⟨hk4, b, k', rfl, hb, hk'⟩ := text_ok h4
    rw [HVi.out]
    rw [← HA.out.2] at hk'
    obtain rfl : k = k' := hk'.symm
    have H4 := Lib.hid (And.intro (H3.out.1.trans hk4) (hk4.kp H3.out.2 (by simp)))
    have HB := Lib.hid hb
    clear H3 hk4 h4 hb c0 c1 c2 c3 c4 lc
    obtain ⟨n, hn, hn64⟩ : ∃ n : Nat, a = n ∧ n < 2 ^ 64 := by
      rw [HA.out.1]
      have e64 : (2 : Nat) ^ 64 = 18446744073709551616 := by decide
      split
      · rename_i hr
        obtain ⟨h1, h2⟩ := word_bd hr
        exact ⟨(word i).toNat, by omega, by omega⟩
      · exact ⟨0, rfl, by decide⟩
    have hbs : b.size ≤ 1000 := by
      rw [HB.out]
      split
      · rename_i hr
        exact toB_size hr
      · decide
    subst hn
    have HN := Lib.hid (And.intro hn64 hbs)
    clear hn64 hbs
    go_wp2_with fail
    refine (pOf w4 n HN.out.1).mono ?_
    intro e w5 h5
    obtain ⟨hk5, C, g, rfl, hC, hg⟩ := of_ok h5
    obtain ⟨d0, d1, d2, d3, d4, hVC, hCC⟩ := inV_lit C
    rw [hVC]
    have H5 := Lib.hid (And.intro ((H4.out.1.trans hk5).alloc (.cells #[.int .i64 d0, .int .i64 d1, .int .i64 d2, .int .i64 d3, .int .i64 d4] 23)) (And.intro (((Keep.refl [] w5).alloc (.cells #[.int .i64 d0, .int .i64 d1, .int .i64 d2, .int .i64 d3, .int .i64 d4] 23)).kp (hk5.kp H4.out.2 (by simp)) (by simp)) (al_new w5 (.cells #[.int .i64 d0, .int .i64 d1, .int .i64 d2, .int .i64 d3, .int .i64 d4] 23) rfl)))
    have HC := Lib.hid (And.intro hC (And.intro hg hCC))
    clear H4 hk5 h5 hC hg hVC hCC
    go_wp2_with fail
    have h5 := H5.out
    clear H5
    generalize w5.alloc (.cells #[.int .i64 d0, .int .i64 d1, .int .i64 d2, .int .i64 d3, .int .i64 d4] 23) = w6 at *
    generalize w5.heap.size = bc at *
    have H5 := Lib.hid h5
    clear h5
    refine (pRead w6 b HN.out.2 (HW.out.2.keep H5.out.1)).mono ?_
    intro e w7 h7
    obtain ⟨hk7, D, h, rfl, hD, hh⟩ := read_ok h7
    obtain ⟨f0, f1, f2, f3, f4, hVD, hCD⟩ := inV_lit D
    rw [hVD]
    have H7 := Lib.hid (And.intro ((H5.out.1.trans hk7).alloc (.cells #[.int .i64 f0, .int .i64 f1, .int .i64 f2, .int .i64 f3, .int .i64 f4] 23)) (And.intro (((Keep.refl [] w7).alloc (.cells #[.int .i64 f0, .int .i64 f1, .int .i64 f2, .int .i64 f3, .int .i64 f4] 23)).kp (hk7.kp H5.out.2.1 (by simp)) (by simp)) (And.intro (((Keep.refl [] w7).alloc (.cells #[.int .i64 f0, .int .i64 f1, .int .i64 f2, .int .i64 f3, .int .i64 f4] 23)).kp (hk7.kp H5.out.2.2 (by simp)) (by simp)) (al_new w7 (.cells #[.int .i64 f0, .int .i64 f1, .int .i64 f2, .int .i64 f3, .int .i64 f4] 23) rfl))))
    have HD := Lib.hid (And.intro hD (And.intro hh hCD))
    clear H5 hk7 h7 hD hh hVD hCD
    go_upto_region 8 with fail
    have h7 := H7.out
    clear H7
    generalize w7.alloc (.cells #[.int .i64 f0, .int .i64 f1, .int .i64 f2, .int .i64 f3, .int .i64 f4] 23) = w8 at *
    generalize w7.heap.size = bd at *
    have H7 := Lib.hid h7
    clear h7
    go_cut [73] from 49 to 118 (fun s73 wx => s73 = .bool false ∧ wx = w8)
    case first =>
      cases hr : right i with
      | false =>
        have hk1 : k = 1 := by rw [HA.out.2, hr]; rfl
        subst hk1
        clear hr
        go_wp2_with fail
        go_meet
        exact ⟨rfl, rfl⟩
      | true =>
        have hk0 : k = 0 := by rw [HA.out.2, hr]; rfl
        subst hk0
        have hnw : (n : Int) = word i := by rw [HA.out.1, hr]; rfl
        have hbt : b.data.toList = text i := by rw [HB.out, hr]; rfl
        have hdw : decW (n : Int) = some i := by rw [hnw]; exact decW_word hr
        have hdt : decT b.data.toList = some i := decT_some hr hbt.symm
        have hCi : C = i := by rw [HC.out.1, hdw]; rfl
        have hDi : D = i := by rw [HD.out.1, hdt]; rfl
        have hg0 : g = 0 := by rw [HC.out.2.1, hdw]; rfl
        have hh0 : h = 0 := by rw [HD.out.2.1, hdt]; rfl
        subst hg0 hh0
        obtain ⟨c0, c1, c2, c3, c4, lc⟩ := rd_in H7.out.2.1
        obtain ⟨p0, p1, p2, p3, p4, lp⟩ := rd_in H7.out.2.2.1
        obtain ⟨q0, q1, q2, q3, q4, lq⟩ := rd_in H7.out.2.2.2
        have hn1 : ∀ w, (binOp .neq 23 (.agg #[.int .i64 d0, .int .i64 d1, .int .i64 d2, .int .i64 d3, .int .i64 d4]) (.agg #[.int .i64 a0, .int .i64 a1, .int .i64 a2, .int .i64 a3, .int .i64 a4])).run Tryd.prog w = .ok (.bool false) w := by
          obtain ⟨_, _, _, _, _, hVi', hCi'⟩ := inV_lit i
          have := HNE.out
          rw [← HC.out.2.2, hCi]
          have e : cel i = #[.int .i64 a0, .int .i64 a1, .int .i64 a2, .int .i64 a3, .int .i64 a4] := by
            have := HVi.out
            unfold inV at this
            unfold cel
            injection this
          rw [e]
          exact HNE.out
        have hn2 : ∀ w, (binOp .neq 23 (.agg #[.int .i64 f0, .int .i64 f1, .int .i64 f2, .int .i64 f3, .int .i64 f4]) (.agg #[.int .i64 a0, .int .i64 a1, .int .i64 a2, .int .i64 a3, .int .i64 a4])).run Tryd.prog w = .ok (.bool false) w := by
          have := HNE.out
          rw [← HD.out.2.2, hDi]
          have e : cel i = #[.int .i64 a0, .int .i64 a1, .int .i64 a2, .int .i64 a3, .int .i64 a4] := by
            have := HVi.out
            unfold inV at this
            unfold cel
            injection this
          rw [e]
          exact HNE.out
        clear hr hnw hbt hdw hdt hCi hDi
        go_wp2_with fail
        go_meet
        exact ⟨rfl, rfl⟩
    case rest =>
      obtain ⟨rfl, rfl⟩ := hcut
      clear HA HB HN HC HD HNE
      go_wp2_with fail
      refine (pOf _ x hx).mono ?_
      intro e w9 h9
      obtain ⟨hk9, X, j, rfl, hX, hj⟩ := of_ok h9
      obtain ⟨d0, d1, d2, d3, d4, hVX, hCX⟩ := inV_lit X
      rw [hVX]
      have H9 := Lib.hid (And.intro ((H7.out.1.trans hk9).alloc (.cells #[.int .i64 d0, .int .i64 d1, .int .i64 d2, .int .i64 d3, .int .i64 d4] 23)) (al_new w9 (.cells #[.int .i64 d0, .int .i64 d1, .int .i64 d2, .int .i64 d3, .int .i64 d4] 23) rfl))
      have HX := Lib.hid (And.intro hX (And.intro hj hVX))
      clear H7 hk9 h9 hX hj hVX hCX
      go_wp2_with fail
      have h9 := H9.out
      clear H9
      generalize w9.alloc (.cells #[.int .i64 d0, .int .i64 d1, .int .i64 d2, .int .i64 d3, .int .i64 d4] 23) = w10 at *
      have H9 := Lib.hid h9
      clear h9
      rw [← HX.out.2.2]
      refine (pWord w10 X (by rw [HX.out.1]; exact wf_decW _)).mono ?_
      intro e w11 h11
      obtain ⟨hk11, y, l, rfl, hy, hl⟩ := word_ok h11
      rw [HX.out.2.2]
      have H11 := Lib.hid (H9.out.1.trans hk11)
      have HY := Lib.hid (And.intro hy hl)
      clear hk11 h11 H9 hy hl
      go_upto_region 12 with fail
      go_cut [94] from 84 to 118 (fun s94 wx => s94 = .bool false ∧ wx = w11)
      case first =>
        cases hd : decW (x : Int) with
        | none =>
          have hj1 : j = 11 := by rw [HX.out.2.1, hd]; rfl
          subst hj1
          clear hd
          go_wp2_with fail
          go_meet
          exact ⟨rfl, rfl⟩
        | some I =>
          obtain ⟨hr, hwI⟩ := decW_ok hd
          have hj0 : j = 0 := by rw [HX.out.2.1, hd]; rfl
          have hXI : X = I := by rw [HX.out.1, hd]; rfl
          subst hXI
          have hy0 : y = x := by rw [HY.out.1, hr]; exact hwI
          have hl0 : l = 0 := by rw [HY.out.2, hr]; rfl
          have hyx : (y == (x : Int)) = true := by rw [hy0]; simp
          have hyx2 : (y != (x : Int)) = false := by rw [hy0]; simp
          clear hd hr hwI hy0
          go_wp2_with fail
          go_meet
          exact ⟨rfl, rfl⟩
      case rest =>
        obtain ⟨rfl, rfl⟩ := hcut
        clear HY HX
        go_wp2_with fail
        refine (pRead _ s HS4.out (HW.out.2.keep H11.out)).mono ?_
        intro e w13 h13
        obtain ⟨hk13, Z, l', rfl, hZ, hl'⟩ := read_ok h13
        obtain ⟨g0, g1, g2, g3, g4, hVZ, hCZ⟩ := inV_lit Z
        rw [hVZ]
        have H13 := Lib.hid ((H11.out.trans hk13).alloc (.cells #[.int .i64 g0, .int .i64 g1, .int .i64 g2, .int .i64 g3, .int .i64 g4] 23))
        have HZ := Lib.hid (And.intro hZ (And.intro hl' hVZ))
        clear H11 hk13 h13 hZ hl' hVZ hCZ
        go_wp2_with fail
        have h13 := H13.out
        clear H13
        generalize w13.alloc (.cells #[.int .i64 g0, .int .i64 g1, .int .i64 g2, .int .i64 g3, .int .i64 g4] 23) = w14 at *
        rw [← HZ.out.2.2]
        refine (pText w14 Z (by rw [HZ.out.1]; exact wf_decT _) (HW.out.2.keep h13)).mono ?_
        intro e w15 h15
        obtain ⟨hk15, t, m, rfl, ht, hm⟩ := text_ok h15
        rw [HZ.out.2.2]
        have HF := Lib.hid (h13.trans hk15)
        have HT := Lib.hid (And.intro ht hm)
        clear h13 hk15 h15 ht hm
        cases hd : decT s.data.toList with
        | none =>
          have hl1 : l' = 11 := by rw [HZ.out.2.1, hd]; rfl
          subst hl1
          clear hd
          go_wp2_with fail
          go_ret
          exact ⟨by trivial, HF.out⟩
        | some I =>
          obtain ⟨hr, hwI⟩ := decT_ok hd
          have hl0 : l' = 0 := by rw [HZ.out.2.1, hd]; rfl
          have hZI : Z = I := by rw [HZ.out.1, hd]; rfl
          subst hZI
          have ht0 : t = s := by rw [HT.out.1, hr]; show toB (text Z) = s; unfold toB; rw [hwI]
          have hm0 : m = 0 := by rw [HT.out.2, hr]; rfl
          subst hl0 hm0
          rw [ht0]
          clear hd hr hwI ht0
          go_wp2_with fail
          go_ret
          exact ⟨by trivial, HF.out⟩
end Go.Proofs.YtajlpicdkdeceaaDoor
