import Derived.Test.YtfihnnijcaapkaaOi
import Derived.Deep.DeepCutAuto
namespace Go.Proofs.Ytfihnnijcaapkaa
open Go.RowKit
set_option linter.unusedSimpArgs false
set_option linter.unusedVariables false
attribute [local go_sem] ob_alloc ob_drew ob_drewN ob_setCell ob_setBlock objSet_cells obMap_map obClock_map isMapI_map keyI_mk findI_nil findI_cons lookRes_some lookRes_none lookRes_some' lookRes_none' setBlock_alloc mapPut

set_option maxRecDepth 100000 in
set_option maxHeartbeats 4000000 in
theorem each05 (W0 : World) (f m x0 x1 : Int) : Calls Try.prog 7 #[.int .i64 f, .int .i64 m, .agg #[.int .i64 x0, .int .i64 x1]] W0 fun e w' => e = .returned (.bool true) ∧ Keep [] W0 w' := by
  obtain ⟨bo, hb⟩ : ∃ b, b = W0.heap.size := ⟨_, rfl⟩
  obtain ⟨w0, hw0⟩ : ∃ w0, w0 = W0.alloc (.cells #[.int .i64 x0, .int .i64 x1] 48) := ⟨_, rfl⟩
  have hk0 : Keep [] W0 w0 := by rw [hw0]; exact (Keep.refl _ _).alloc _
  have hF0 : ob w0 bo = some (.cells #[.int .i64 x0, .int .i64 x1] 48 (0, 0)) := by rw [hw0]; exact al_new _ _ hb
  have HW := Lib.hid hw0
  have HB := Lib.hid hb
  have hbw : W0.heap.size ≤ bo := by omega
  clear hb hw0
  go_enter Try.func7, Try.ntmps7
  go_wp2_with fail
  rw [← HW.out, ← HB.out]
  refine (awake05 w0).mono ?_
  rintro _ w1 ⟨rfl, hk1⟩
  have hF1 := hk1.kp hF0 (by simp)
  go_wp2_with fail
  refine (oNew_ok 16 (by omega) (by omega) w1).mono ?_
  rintro _ w2 ⟨rfl, hO2, hk2, hs2⟩
  have hC : CO W0 (w1.heap.size + 1) w1.heap.size 16 [(bo, .cells #[.int .i64 x0, .int .i64 x1] 48 (0, 0))] w2 (fun _ => -1) (fun _ => 256) (fun _ => 0) :=
    ⟨hO2, OInv.start (by omega) (by omega), by
      intro x hx
      simp only [List.mem_cons, List.not_mem_nil, or_false] at hx
      subst hx
      have := ob_lt hF1
      exact ⟨hk2.kp hF1 (by simp), by show bo ≠ w1.heap.size + 1; omega, by show bo ≠ w1.heap.size; omega, hbw⟩, (hk0.trans hk1).trans hk2, by have := (hk0.trans hk1).size; omega⟩
  generalize w1.heap.size + 1 = o at *
  generalize w1.heap.size = g at *
  have c0 := cell_of_ob (hC.ob (.head _)) 0
  have c1 := cell_of_ob (hC.ob (.head _)) 1
  simp only [List.getElem?_toArray, List.getElem?_cons_zero, List.getElem?_cons_succ] at c0 c1
  clear hO2 hk0 hk1 hk2 hs2 hF0 hF1
  by_cases hg : 0 ≤ x0 ∧ x0 ≤ 8 ∧ 0 ≤ x1 ∧ x1 ≤ 20
  · obtain ⟨g0, g8, g1, g20⟩ := hg
    obtain ⟨k, rfl⟩ := Int.eq_ofNat_of_zero_le g0
    have hk : k < 9 := by omega
    have hm : mayB (k : Int) = true := by unfold mayB; simp; omega
    have hq : quotaR 16 (fun _ => -1) k x1 = 0 := by unfold quotaR; rw [if_pos ⟨hm, g1, by omega⟩, ocnt_fresh, if_neg (by omega)]
    have eM : quotaM 16 (fun _ => -1) (fun _ => 256) k x1 = updW (fun _ => 256) k x1 := by unfold quotaM; rw [if_pos hq]; rfl
    have hQ := hC.quota k x1
    rw [hq, eM] at hQ
    clear hq eM hC
    go_wp2_with fail
    refine hQ.mono ?_
    rintro _ w3 ⟨rfl, hD⟩
    clear hQ c0 c1
    have d0 := cell_of_ob (hD.ob (.head _)) 0
    have d1 := cell_of_ob (hD.ob (.head _)) 1
    simp only [List.getElem?_toArray, List.getElem?_cons_zero, List.getElem?_cons_succ] at d0 d1
    by_cases ha : areB 16 f m = true
    · obtain ⟨F, K, rfl, rfl, h1, h2⟩ := areB_out ha
      have hG := hD.give F K k
      have s1 : (K : Int) ≤ 16 := by omega
      have s2 : (F : Int) ≤ 16 - (K : Int) := by omega
      have s3 : (1 : Int) ≤ (K : Int) := by omega
      by_cases hx : (K : Int) ≤ x1
      · have e1 : giveR 16 (fun _ => -1) (updW (fun _ => 256) k x1) F K k = 0 := by
          unfold giveR; rw [if_pos ⟨hm, ha⟩]; simp only [Int.toNat_natCast, allB_fresh, if_true, ocnt_fresh]
          rw [if_neg (by simp [updW]; omega)]
        have e2 : giveL 16 (fun _ => -1) (updW (fun _ => 256) k x1) F K k = setL (fun _ => -1) F K k := by unfold giveL; rw [if_pos e1]; rfl
        rw [e1, e2] at hG
        generalize giveH 16 (fun _ => -1) (updW (fun _ => 256) k x1) (fun _ => 0) F K k = H1 at *
        have s4 : IntKind.i64.wrap ((F : Int) + (K : Int)) = (F : Int) + (K : Int) := IntWalk.i64_in _ (by omega)
        clear e1 e2 hD ha hm
        go_wp2_with fail
        refine hG.mono ?_
        rintro _ w4 ⟨rfl, hE⟩
        clear hG d0 d1
        have d0 := cell_of_ob (hE.ob (.head _)) 0
        have d1 := cell_of_ob (hE.ob (.head _)) 1
        simp only [List.getElem?_toArray, List.getElem?_cons_zero, List.getElem?_cons_succ] at d0 d1
        go_wp2_with fail
        go_loopg [13] 16 (fun gn i wq => ∃ n : Nat, i = .int .i64 n ∧ n ≤ 16 ∧ gn = 16 - n ∧ CO W0 o g 16 [(bo, .cells #[.int .i64 k, .int .i64 x1] 48 (0, 0))] wq (setL (fun _ => -1) F K k) (updW (fun _ => 256) k x1) H1)
        case atStart => exact ⟨0, rfl, by omega, by omega, hE⟩
        case round =>
          clear hE d0 d1
          obtain ⟨n, rfl, hn16, rfl, hE⟩ := hrel
          have d0 := cell_of_ob (hE.ob (.head _)) 0
          have d1 := cell_of_ob (hE.ob (.head _)) 1
          simp only [List.getElem?_toArray, List.getElem?_cons_zero, List.getElem?_cons_succ] at d0 d1
          by_cases hn : n < 16
          · have hof := fun nd => (hE.drewN nd).of n
            rw [show ofR 16 (setL (fun _ => -1) F K k) (n : Int) = setL (fun _ => -1) F K k n by unfold ofR; rw [if_pos (by omega)]; rfl] at hof
            by_cases hin : F ≤ n ∧ n < F + K
            · rw [show setL (fun _ => -1) F K (k : Int) n = k by unfold setL; rw [if_pos hin]] at hof
              have t1 : (F : Int) ≤ (n : Int) := by omega
              have t2 : (n : Int) < (F : Int) + (K : Int) := by omega
              have t3 : F ≤ n := hin.1
              go_wp2_with fail
              go_quiet ((go_at_call 29; exact q_same (hof _)))
              clear hof
              go_wp2_with fail
              go_roundg (16 - (n + 1))
              case measure => omega
              case rel => exact ⟨n + 1, by go_num, by omega, rfl, hE.drewN _⟩
            · rw [show setL (fun _ => -1) F K (k : Int) n = -1 by unfold setL; rw [if_neg hin]] at hof
              rcases (show n < F ∨ (F ≤ n ∧ F + K ≤ n) by omega) with t1 | ⟨t1, t2⟩
              · have t3 : decide (F ≤ n) = false := by simp; omega
                have t4 : decide ((F : Int) ≤ (n : Int)) = false := by simp; omega
                clear hin
                go_wp2_with fail
                go_quiet ((go_at_call 29; exact q_same (hof _)))
                clear hof
                go_wp2_with fail
                go_roundg (16 - (n + 1))
                case measure => omega
                case rel => exact ⟨n + 1, by go_num, by omega, rfl, hE.drewN _⟩
              · have t4 : (F : Int) ≤ (n : Int) := by omega
                have t5 : decide ((n : Int) < (F : Int) + (K : Int)) = false := by simp; omega
                clear hin
                go_wp2_with fail
                go_quiet ((go_at_call 29; exact q_same (hof _)))
                clear hof
                go_wp2_with fail
                go_roundg (16 - (n + 1))
                case measure => omega
                case rel => exact ⟨n + 1, by go_num, by omega, rfl, hE.drewN _⟩
          · obtain rfl : n = 16 := by omega
            have hkE := hE.kp
            clear hE
            go_wp2
            go_ret
            exact ⟨rfl, hkE⟩
      · have e1 : giveR 16 (fun _ => -1) (updW (fun _ => 256) k x1) F K k = 12 := by
          unfold giveR; rw [if_pos ⟨hm, ha⟩]; simp only [Int.toNat_natCast, allB_fresh, if_true, ocnt_fresh]
          rw [if_pos (by simp [updW]; omega)]
        have e2 : giveL 16 (fun _ => -1) (updW (fun _ => 256) k x1) F K k = fun _ => -1 := by unfold giveL; rw [if_neg (by rw [e1]; simp)]
        rw [e1, e2] at hG
        generalize giveH 16 (fun _ => -1) (updW (fun _ => 256) k x1) (fun _ => 0) F K k = H1 at *
        have hx2 : decide ((K : Int) ≤ x1) = false := by simp; omega
        clear e1 e2 hD ha hm
        go_wp2_with fail
        refine hG.mono ?_
        rintro _ w4 ⟨rfl, hE⟩
        clear hG d0 d1
        have d0 := cell_of_ob (hE.ob (.head _)) 0
        have d1 := cell_of_ob (hE.ob (.head _)) 1
        simp only [List.getElem?_toArray, List.getElem?_cons_zero, List.getElem?_cons_succ] at d0 d1
        go_wp2_with fail
        go_loopg [13] 16 (fun gn i wq => ∃ n : Nat, i = .int .i64 n ∧ n ≤ 16 ∧ gn = 16 - n ∧ CO W0 o g 16 [(bo, .cells #[.int .i64 k, .int .i64 x1] 48 (0, 0))] wq (fun _ => -1) (updW (fun _ => 256) k x1) H1)
        case atStart => exact ⟨0, rfl, by omega, by omega, hE⟩
        case round =>
          clear hE d0 d1
          obtain ⟨n, rfl, hn16, rfl, hE⟩ := hrel
          have d0 := cell_of_ob (hE.ob (.head _)) 0
          have d1 := cell_of_ob (hE.ob (.head _)) 1
          simp only [List.getElem?_toArray, List.getElem?_cons_zero, List.getElem?_cons_succ] at d0 d1
          by_cases hn : n < 16
          · have hof := fun nd => (hE.drewN nd).of n
            rw [show ofR 16 (fun _ => -1) (n : Int) = -1 by unfold ofR; rw [if_pos (by omega)]] at hof
            go_wp2_with fail
            go_quiet ((go_at_call 29; exact q_same (hof _)))
            clear hof
            go_wp2_with fail
            go_roundg (16 - (n + 1))
            case measure => omega
            case rel => exact ⟨n + 1, by go_num, by omega, rfl, hE.drewN _⟩
          · obtain rfl : n = 16 := by omega
            have hkE := hE.kp
            clear hE
            go_wp2
            go_ret
            exact ⟨rfl, hkE⟩
    · have hG := hD.give f m k
      have e1 : giveR 16 (fun _ => -1) (updW (fun _ => 256) k x1) f m k = 1 := by unfold giveR; rw [if_neg (fun h => ha h.2)]
      have e2 : giveL 16 (fun _ => -1) (updW (fun _ => 256) k x1) f m k = fun _ => -1 := by unfold giveL; rw [if_neg (by rw [e1]; simp)]
      rw [e1, e2] at hG
      generalize giveH 16 (fun _ => -1) (updW (fun _ => 256) k x1) (fun _ => 0) f m k = H1 at *
      have hc : (decide (1 ≤ m) = false) ∨ (1 ≤ m ∧ decide (m ≤ 16) = false) ∨ (1 ≤ m ∧ m ≤ 16 ∧ decide (0 ≤ f) = false) ∨ (1 ≤ m ∧ m ≤ 16 ∧ 0 ≤ f ∧ decide (f ≤ 16 - m) = false) := by
        have := areB_no (n := 16) (f := f) (m := m) (by simpa using ha)
        simp only [decide_eq_false_iff_not]; omega
      clear e1 e2 hD ha hm
      go_upto_region 7 with (go_at_call 28; refine hG.mono ?_; rintro _ w4 ⟨rfl, hE⟩)
      have hE2 := hE
      clear hG d0 d1
      go_cut [12] (fun s12 wx => s12 = .bool false ∧ wx = w4)
      case first =>
        clear hE hE2
        rcases hc with h | ⟨h, h2⟩ | ⟨h, h2, h3⟩ | ⟨h, h2, h3, h4⟩
        all_goals
          go_wp2_with fail
          go_meet
          exact ⟨rfl, rfl⟩
      case rest =>
        obtain ⟨rfl, rfl⟩ := hcut
        clear hc
        have d0 := cell_of_ob (hE.ob (.head _)) 0
        have d1 := cell_of_ob (hE.ob (.head _)) 1
        simp only [List.getElem?_toArray, List.getElem?_cons_zero, List.getElem?_cons_succ] at d0 d1
        go_wp2_with fail
        go_loopg [13] 16 (fun gn i wq => ∃ n : Nat, i = .int .i64 n ∧ n ≤ 16 ∧ gn = 16 - n ∧ CO W0 o g 16 [(bo, .cells #[.int .i64 k, .int .i64 x1] 48 (0, 0))] wq (fun _ => -1) (updW (fun _ => 256) k x1) H1)
        case atStart => exact ⟨0, rfl, by omega, by omega, hE⟩
        case round =>
          clear hE d0 d1
          obtain ⟨n, rfl, hn16, rfl, hE⟩ := hrel
          have d0 := cell_of_ob (hE.ob (.head _)) 0
          have d1 := cell_of_ob (hE.ob (.head _)) 1
          simp only [List.getElem?_toArray, List.getElem?_cons_zero, List.getElem?_cons_succ] at d0 d1
          by_cases hn : n < 16
          · have hof := fun nd => (hE.drewN nd).of n
            rw [show ofR 16 (fun _ => -1) (n : Int) = -1 by unfold ofR; rw [if_pos (by omega)]] at hof
            go_wp2_with fail
            go_quiet ((go_at_call 29; exact q_same (hof _)))
            clear hof
            go_wp2_with fail
            go_roundg (16 - (n + 1))
            case measure => omega
            case rel => exact ⟨n + 1, by go_num, by omega, rfl, hE.drewN _⟩
          · obtain rfl : n = 16 := by omega
            have hkE := hE.kp
            clear hE
            go_wp2
            go_ret
            exact ⟨rfl, hkE⟩
  · have hkE := hC.kp
    have hc : x0 < 0 ∨ (¬ x0 < 0 ∧ 8 < x0) ∨ (¬ x0 < 0 ∧ ¬ 8 < x0 ∧ x1 < 0) ∨ (¬ x0 < 0 ∧ ¬ 8 < x0 ∧ ¬ x1 < 0 ∧ 20 < x1) := by omega
    clear hC hg
    rcases hc with h | ⟨h, h2⟩ | ⟨h, h2, h3⟩ | ⟨h, h2, h3, h4⟩
    all_goals
      go_wp2
      go_ret
      exact ⟨rfl, hkE⟩
end Go.Proofs.Ytfihnnijcaapkaa
