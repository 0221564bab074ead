import Derived.Test.YtjiienoflgolpaaMi
namespace Go.Proofs.Ytjiienoflgolpaa
open Go.RowKit
set_option linter.unusedSimpArgs false
set_option linter.unusedVariables false
attribute [local go_sem] ob_alloc ob_drew ob_drewN ob_setCell ob_setBlock objSet_cells obMap_map obClock_map isMapI_map keyI_mk findI_nil findI_cons lookRes_some lookRes_none lookRes_some' lookRes_none' setBlock_alloc mapPut

set_option maxRecDepth 100000 in
set_option maxHeartbeats 4000000 in
theorem one02 (W0 : World) (n0 a0 a1 x0 x1 : Int) :
    Calls Try.prog 6 #[.int .i64 n0, .agg #[.int .i64 a0, .int .i64 a1], .agg #[.int .u64 x0, .int .u64 x1]] W0 fun o w' => o = .returned (.bool true) ∧ Keep [] W0 w' := by
  have hkb : Keep [] W0 ((W0.alloc (.cells #[.int .i64 a0, .int .i64 a1] 47)).alloc (.cells #[.int .u64 x0, .int .u64 x1] 48)) := ((Keep.refl _ _).alloc _).alloc _
  have e4 : ob ((W0.alloc (.cells #[.int .i64 a0, .int .i64 a1] 47)).alloc (.cells #[.int .u64 x0, .int .u64 x1] 48)) W0.heap.size = some (.cells #[.int .i64 a0, .int .i64 a1] 47 (0, 0)) := al (al_new _ _ rfl)
  have e5 : ob ((W0.alloc (.cells #[.int .i64 a0, .int .i64 a1] 47)).alloc (.cells #[.int .u64 x0, .int .u64 x1] 48)) (W0.heap.size + 1) = some (.cells #[.int .u64 x0, .int .u64 x1] 48 (0, 0)) := al_new _ _ (by simp)
  go_enter Try.func6, Try.ntmps6
  go_wp2_with fail
  generalize (W0.alloc (.cells #[.int .i64 a0, .int .i64 a1] 47)).alloc (.cells #[.int .u64 x0, .int .u64 x1] 48) = wb at *
  have hbs := ob_lt e5
  have hS := hkb.size
  obtain ⟨b, hb⟩ : ∃ b, b = W0.heap.size := ⟨_, rfl⟩
  have hWb : W0.heap.size ≤ b := by omega
  rw [← hb] at e4 e5 hbs ⊢
  clear hb
  refine (awake02 wb).mono ?_
  rintro _ w1 ⟨rfl, hk1⟩
  have f4 := hk1.kp e4 (by simp)
  have f5 := hk1.kp e5 (by simp)
  have hkw := hkb.trans hk1
  have hb1 := ob_lt f5
  clear e4 e5 hkb hk1 hbs hS
  cases hok : okFrames n0 with
  | false =>
    go_wp2_with fail
    refine (mNew_no n0 hok w1).mono ?_
    rintro _ w2 ⟨rfl, rfl⟩
    clear hok f4 f5
    go_wp2
    go_ret
    exact ⟨rfl, hkw⟩
  | true =>
    obtain ⟨n, rfl, hn1, hn2⟩ := okFrames_out hok
    go_wp2_with fail
    refine (mNew_ok n hn1 hn2 w1).mono ?_
    rintro _ w2 ⟨rfl, hM, hk2, hs2⟩
    obtain ⟨g, hg⟩ : ∃ g, g = w1.heap.size := ⟨_, rfl⟩
    rw [← hg] at hM ⊢
    have hbg : b ≠ g := by omega
    have hbg1 : b + 1 ≠ g := by omega
    have hWg : W0.heap.size ≤ g := by omega
    have e4 := hk2.kp f4 (by simp)
    have e5 := hk2.kp f5 (by simp)
    have hkw2 := hkw.trans hk2
    clear hg hs2 f4 f5 hkw hk2 hok hb1
    obtain ⟨m, hm⟩ : ∃ m, m = g + 1 := ⟨_, rfl⟩
    rw [← hm] at hM ⊢
    clear hm
    have c4 := cell_of_ob e4
    have c5 := cell_of_ob e5
    go_wp2_with fail
    refine (mWrite w2 m g n _ hM a0 x0).mono ?_
    rintro _ w3 ⟨rfl, hM3, hk3⟩
    have e43 := hk3.kp e4 (by simp; exact hbg)
    have e53 := hk3.kp e5 (by simp; exact hbg1)
    have hkw3 := hkw2.andThen hk3 (by simp; omega)
    clear hM hk3 e4 e5 c4 c5 hkw2
    have c4 := cell_of_ob e43
    have c5 := cell_of_ob e53
    go_wp2_with fail
    refine (mWrite w3 m g n _ hM3 a1 x1).mono ?_
    rintro _ w4 ⟨rfl, hM4, hk4⟩
    have e44 := hk4.kp e43 (by simp; exact hbg)
    have e54 := hk4.kp e53 (by simp; exact hbg1)
    have hkw4 := hkw3.andThen hk4 (by simp; omega)
    clear hM3 hk4 e43 e53 c4 c5 hkw3
    have c4 := cell_of_ob e44
    have c5 := cell_of_ob e54
    generalize hs2 : writeS n (writeS n (fun _ => 0) a0 x0) a1 x1 = s2 at *
    go_wp2_with fail
    refine (mRead w4 m g n _ hM4 a0).mono ?_
    rintro _ w5 ⟨rfl, rfl⟩
    go_wp2_with fail
    refine (mRead w4 m g n _ hM4 a1).mono ?_
    rintro _ w5 ⟨rfl, rfl⟩
    cases o0 : okA n a0 with
    | false =>
      rw [eR_f rfl]
      cases o1 : okA n a1 with
      | false =>
        rw [eR_f rfl]
        clear hM4 hs2 o0 o1
        go_wp2
        go_ret
        exact ⟨rfl, hkw4⟩
      | true =>
        rw [eR_t rfl]
        have hy : readR n s2 a1 = x1 := by
          rw [← hs2]; unfold readR; rw [if_pos o1]; rw [writeS, if_pos o1]; simp [updW]
        rw [hy]
        clear hM4 hs2 o0 o1 hy
        go_wp2
        go_ret
        exact ⟨rfl, hkw4⟩
    | true =>
      rw [eR_t rfl]
      obtain ⟨k0, rfl, hk0⟩ := okA_out o0
      cases o1 : okA n a1 with
      | false =>
        rw [eR_f rfl]
        have hx : readR n s2 k0 = x0 := by
          rw [← hs2]; unfold readR; rw [if_pos o0]; rw [writeS, if_neg (by simp [o1]), writeS, if_pos o0]; simp [updW]
        rw [hx]
        clear hM4 hs2 o0 o1 hx
        go_wp2
        all_goals
          go_ret
          exact ⟨rfl, hkw4⟩
      | true =>
        rw [eR_t rfl]
        obtain ⟨k1, rfl, hk1⟩ := okA_out o1
        have hs : ∀ j, s2 j = if j = k1 then x1 else if j = k0 then x0 else 0 := by
          intro j; rw [← hs2, writeS, if_pos o1, writeS, if_pos o0]; simp [updW]
        have hy : readR n s2 k1 = x1 := by unfold readR; rw [if_pos o1]; simp [hs]
        have hx : readR n s2 k0 = if k0 = k1 then x1 else x0 := by unfold readR; rw [if_pos o0]; simp [hs]
        have t0 : (k0 : Int).tdiv 16 = ((k0 / 16 : Nat) : Int) := by rw [Int.tdiv_eq_ediv_of_nonneg (by omega)]; rfl
        have hh := okA_div hk0
        have hz : readR n (scrubS n s2 ((k0 / 16 : Nat) : Int) 1) k0 = 0 := by
          unfold readR scrubS; rw [if_pos o0, if_pos hh]
          show scr s2 (k0 / 16) 1 k0 = 0
          unfold scr; rw [if_pos (by omega)]
        have hu : readR n (scrubS n s2 ((k0 / 16 : Nat) : Int) 1) k1 = if k0 / 16 = k1 / 16 then 0 else x1 := by
          unfold readR scrubS; rw [if_pos o1, if_pos hh]
          show scr s2 (k0 / 16) 1 k1 = _
          unfold scr
          by_cases e : k0 / 16 = k1 / 16
          · rw [if_pos (by omega), if_pos e]
          · rw [if_neg (by omega), if_neg e, hs, if_pos rfl]
        have hzz : zeroB n (scrubS n s2 ((k0 / 16 : Nat) : Int) 1) ((k0 / 16 : Nat) : Int) = true := by
          unfold zeroB
          rw [hh, Bool.true_and, eqB_iff]
          intro j hj
          unfold scrubS fr
          rw [if_pos hh]
          show scr s2 (k0 / 16) 1 (k0 / 16 * 16 + j) = 0
          unfold scr; rw [if_pos (by omega)]
        have ed : ((k0 / 16 : Nat) : Int) = (k0 : Int) / 16 := by omega
        rw [ed] at hz hu hzz hh t0
        have t1 : (k1 : Int).tdiv 16 = (k1 : Int) / 16 := by rw [Int.tdiv_eq_ediv_of_nonneg (by omega)]
        rw [hx, hy]
        have HX := Lib.hid (And.intro hz (And.intro hu (And.intro hzz hh)))
        clear hz hu hzz hs2 hs hx hy hh o0 o1 ed
        by_cases e01 : k0 = k1
        · subst e01
          rw [if_pos rfl]
          clear t1
          go_wp2_with fail
          refine (mScrub w4 m g n s2 hM4 _ 1).mono ?_
          rintro _ w5 ⟨rfl, hM5, hk5⟩
          have e45 := hk5.kp e44 (by simp; exact hbg)
          have e55 := hk5.kp e54 (by simp; exact hbg1)
          have hkw5 := hkw4.andThen hk5 (by simp; omega)
          rw [eR_t HX.out.2.2.2]
          clear hM4 hk5 e44 e54 c4 c5 hkw4
          have c4 := cell_of_ob e45
          have c5 := cell_of_ob e55
          go_wp2_with fail
          refine (mRead w5 m g n _ hM5 k0).mono ?_
          rintro _ w6 ⟨rfl, rfl⟩
          rw [HX.out.1]
          go_wp2_with fail
          refine (mRead w5 m g n _ hM5 k0).mono ?_
          rintro _ w6 ⟨rfl, rfl⟩
          rw [HX.out.1]
          go_wp2_with fail
          refine (mZero w5 m g n _ hM5 _).mono ?_
          rintro _ w6 ⟨rfl, rfl⟩
          rw [HX.out.2.2.1]
          clear hM5
          go_wp2
          all_goals
            go_ret
            exact ⟨rfl, hkw5⟩
        · rw [if_neg e01]
          have e01' : ((k0 : Int) != (k1 : Int)) = true := by simp; omega
          by_cases e16 : k0 / 16 = k1 / 16
          · have q1 : ((k0 : Int) / 16 != (k1 : Int) / 16) = false := by simp; omega
            have q2 : ((k0 : Int) / 16 == (k1 : Int) / 16) = true := by simp; omega
            have HU : Hid (readR n (scrubS n s2 ((k0 : Int) / 16) 1) k1 = 0) := by
              show _ = _; rw [HX.out.2.1, if_pos e16]
            clear e16
            go_wp2_with fail
            refine (mScrub w4 m g n s2 hM4 _ 1).mono ?_
            rintro _ w5 ⟨rfl, hM5, hk5⟩
            have e45 := hk5.kp e44 (by simp; exact hbg)
            have e55 := hk5.kp e54 (by simp; exact hbg1)
            have hkw5 := hkw4.andThen hk5 (by simp; omega)
            rw [eR_t HX.out.2.2.2]
            clear hM4 hk5 e44 e54 c4 c5 hkw4
            have c4 := cell_of_ob e45
            have c5 := cell_of_ob e55
            go_wp2_with fail
            refine (mRead w5 m g n _ hM5 k0).mono ?_
            rintro _ w6 ⟨rfl, rfl⟩
            rw [HX.out.1]
            go_wp2_with fail
            refine (mRead w5 m g n _ hM5 k1).mono ?_
            rintro _ w6 ⟨rfl, rfl⟩
            rw [HU.out]
            go_wp2_with fail
            refine (mZero w5 m g n _ hM5 _).mono ?_
            rintro _ w6 ⟨rfl, rfl⟩
            rw [HX.out.2.2.1]
            clear hM5
            go_wp2
            all_goals
              go_ret
              exact ⟨rfl, hkw5⟩
          · have q1 : ((k0 : Int) / 16 != (k1 : Int) / 16) = true := by simp; omega
            have q2 : ((k0 : Int) / 16 == (k1 : Int) / 16) = false := by simp; omega
            have HU : Hid (readR n (scrubS n s2 ((k0 : Int) / 16) 1) k1 = x1) := by
              show _ = _; rw [HX.out.2.1, if_neg e16]
            clear e16
            go_wp2_with fail
            refine (mScrub w4 m g n s2 hM4 _ 1).mono ?_
            rintro _ w5 ⟨rfl, hM5, hk5⟩
            have e45 := hk5.kp e44 (by simp; exact hbg)
            have e55 := hk5.kp e54 (by simp; exact hbg1)
            have hkw5 := hkw4.andThen hk5 (by simp; omega)
            rw [eR_t HX.out.2.2.2]
            clear hM4 hk5 e44 e54 c4 c5 hkw4
            have c4 := cell_of_ob e45
            have c5 := cell_of_ob e55
            go_wp2_with fail
            refine (mRead w5 m g n _ hM5 k0).mono ?_
            rintro _ w6 ⟨rfl, rfl⟩
            rw [HX.out.1]
            go_wp2_with fail
            refine (mRead w5 m g n _ hM5 k1).mono ?_
            rintro _ w6 ⟨rfl, rfl⟩
            rw [HU.out]
            go_wp2_with fail
            refine (mZero w5 m g n _ hM5 _).mono ?_
            rintro _ w6 ⟨rfl, rfl⟩
            rw [HX.out.2.2.1]
            clear hM5
            go_wp2
            all_goals
              go_ret
              exact ⟨rfl, hkw5⟩
end Go.Proofs.Ytjiienoflgolpaa
