import Derived.Test.YtfihnnijcaapkaaOh
namespace Go.Proofs.Ytfihnnijcaapkaa
open Go.RowKit
set_option linter.unusedSimpArgs false
set_option linter.unusedVariables false
attribute [local go_sem] ob_alloc ob_drew ob_drewN ob_setCell ob_setBlock objSet_cells obMap_map obClock_map isMapI_map keyI_mk findI_nil findI_cons lookRes_some lookRes_none lookRes_some' lookRes_none' setBlock_alloc mapPut

theorem allB_fresh (F K : Nat) : allB (fun _ => -1) F K (-1) = true := allB_iff.2 (fun _ _ => rfl)
theorem ocnt_fresh (k n : Nat) : ocnt (fun _ => -1) k n = 0 := ocnt_none _ _ n (fun i _ => by show (-1 : Int) ≠ k; omega)
theorem giveR_fresh {M : Nat → Int} (hM : ∀ k, k < 9 → 16 ≤ M k) (f m x : Int) : giveR 16 (fun _ => -1) M f m x = if mayB x = true ∧ areB 16 f m = true then 0 else 1 := by
  unfold giveR
  by_cases h : mayB x = true ∧ areB 16 f m = true
  · rw [if_pos h, if_pos h]
    obtain ⟨k, rfl, hk⟩ := mayB_out h.1
    obtain ⟨F, K, rfl, rfl, h1, h2⟩ := areB_out h.2
    have := hM k hk
    simp only [Int.toNat_natCast, allB_fresh, if_true, ocnt_fresh]
    rw [if_neg (by omega)]
  · rw [if_neg h, if_neg h]
theorem countR_fresh (x : Int) : countR 16 (fun _ => -1) x = 0 := by
  unfold countR
  split
  · rename_i h
    obtain ⟨k, rfl, hk⟩ := mayB_out h
    exact ocnt_fresh k 16
  · rfl
theorem back_law {F K k : Nat} (hk : k < 9) (h1 : 1 ≤ K) (h2 : F + K ≤ 16) :
    countR 16 (setL (fun _ => -1) F K k) k = K ∧ takeR 16 (setL (fun _ => -1) F K k) F K k = 0 ∧ countR 16 (takeL 16 (setL (fun _ => -1) F K k) F K k) k = 0 ∧ ofR 16 (takeL 16 (setL (fun _ => -1) F K k) F K k) F = -1 ∧
      takeR 16 (takeL 16 (setL (fun _ => -1) F K k) F K k) F K k = 2 ∧ ∀ x : Int, (k : Int) ≠ x → takeR 16 (setL (fun _ => -1) F K k) F K x ≠ 0 := by
  have hm : mayB (k : Int) = true := by unfold mayB; simp; omega
  have ha : areB 16 (F : Int) (K : Int) = true := by unfold areB; simp; omega
  have hall : allB (setL (fun _ => -1) F K k) F K k = true := allB_iff.2 (fun i hi => by unfold setL; rw [if_pos (by omega)])
  have t0 : takeR 16 (setL (fun _ => -1) F K k) F K k = 0 := by unfold takeR; rw [if_pos ⟨hm, ha⟩]; simp [hall]
  have tL : takeL 16 (setL (fun _ => -1) F K k) F K k = setL (setL (fun _ => -1) F K k) F K (-1) := by unfold takeL; rw [if_pos t0]; rfl
  have c1 : ocnt (setL (fun _ => -1) F K k) k 16 = K := by rw [ocnt_give (by omega) (allB_fresh F K) h2 k (by omega), ocnt_fresh]; simp
  refine ⟨by unfold countR; rw [if_pos hm, c1], t0, ?_, ?_, ?_, fun x hx => ?_⟩
  · rw [tL]; unfold countR; rw [if_pos hm, ocnt_take (by omega) hall h2 k (by omega), c1]; simp
  · rw [tL]; unfold ofR; rw [if_pos (by omega)]; show setL _ F K (-1) F = -1; unfold setL; rw [if_pos (by omega)]
  · rw [tL]
    have hn : allB (setL (setL (fun _ => -1) F K k) F K (-1)) F K k = false := by
      cases e : allB (setL (setL (fun _ => -1) F K k) F K (-1)) F K k with
      | false => rfl
      | true =>
        have := allB_iff.1 e 0 (by omega)
        have e2 : setL (setL (fun _ => -1) F K k) F K (-1) (F + 0) = -1 := by unfold setL; rw [if_pos (by omega)]
        rw [e2] at this; omega
    unfold takeR; rw [if_pos ⟨hm, ha⟩]; simp [hn]
  · intro e
    obtain ⟨F', K', k', e1, e2, rfl, h3, h4, h5, h6⟩ := takeR_ok e
    have e1' : F = F' := by omega
    have e2' : K = K' := by omega
    subst e1'
    subst e2'
    have := allB_iff.1 h6 0 (by omega)
    have e3 : setL (fun _ => -1) F K (k : Int) (F + 0) = k := by unfold setL; rw [if_pos (by omega)]
    rw [e3] at this
    exact hx this

set_option maxRecDepth 100000 in
set_option maxHeartbeats 2000000 in
theorem back05 (W0 : World) (f m x0 x1 : Int) : Calls Try.prog 10 #[.int .i64 f, .int .i64 m, .agg #[.int .i64 x0, .int .i64 x1]] W0 fun e w' => e = .returned (.bool true) ∧ Keep [] W0 w' := by
  obtain ⟨bo, hb⟩ : ∃ b, b = W0.heap.size := ⟨_, rfl⟩
  obtain ⟨w0, hw0⟩ : ∃ w0, w0 = W0.alloc (.cells #[.int .i64 x0, .int .i64 x1] 48) := ⟨_, rfl⟩
  have hk0 : Keep [] W0 w0 := by rw [hw0]; exact (Keep.refl _ _).alloc _
  have hF0 : ob w0 bo = some (.cells #[.int .i64 x0, .int .i64 x1] 48 (0, 0)) := by rw [hw0]; exact al_new _ _ hb
  have HW := Lib.hid hw0
  have HB := Lib.hid hb
  have hbw : W0.heap.size ≤ bo := by omega
  clear hb hw0
  go_enter Try.func10, Try.ntmps10
  go_wp2_with fail
  rw [← HW.out, ← HB.out]
  refine (awake05 w0).mono ?_
  rintro _ w1 ⟨rfl, hk1⟩
  have hF1 := hk1.kp hF0 (by simp)
  go_wp2_with fail
  refine (oNew_ok 16 (by omega) (by omega) w1).mono ?_
  rintro _ w2 ⟨rfl, hO2, hk2, hs2⟩
  have hC : CO W0 (w1.heap.size + 1) w1.heap.size 16 [(bo, .cells #[.int .i64 x0, .int .i64 x1] 48 (0, 0))] w2 (fun _ => -1) (fun _ => 256) (fun _ => 0) :=
    ⟨hO2, OInv.start (by omega) (by omega), by
      intro x hx
      simp only [List.mem_cons, List.not_mem_nil, or_false] at hx
      subst hx
      have := ob_lt hF1
      exact ⟨hk2.kp hF1 (by simp), by show bo ≠ w1.heap.size + 1; omega, by show bo ≠ w1.heap.size; omega, hbw⟩, (hk0.trans hk1).trans hk2, by have := (hk0.trans hk1).size; omega⟩
  generalize w1.heap.size + 1 = o at *
  generalize w1.heap.size = g at *
  have c0 := cell_of_ob (hC.ob (.head _)) 0
  have c1 := cell_of_ob (hC.ob (.head _)) 1
  simp only [List.getElem?_toArray, List.getElem?_cons_zero, List.getElem?_cons_succ] at c0 c1
  clear hO2 hk0 hk1 hk2 hs2 hF0 hF1
  have hg := giveR_fresh (M := fun _ => 256) (by simp) f m x0
  by_cases hy : mayB x0 = true ∧ areB 16 f m = true
  · rw [if_pos hy] at hg
    obtain ⟨k, rfl, hk⟩ := mayB_out hy.1
    obtain ⟨F, K, rfl, rfl, h1, h2⟩ := areB_out hy.2
    obtain ⟨q1, q2, q3, q4, q5, q6⟩ := back_law hk h1 h2
    have hG := hC.give F K k
    have eL : giveL 16 (fun _ => -1) (fun _ => 256) F K k = setL (fun _ => -1) F K k := by unfold giveL; rw [if_pos hg]; rfl
    rw [hg, eL] at hG
    generalize setL (fun _ => -1) F K (k : Int) = L1 at *
    generalize giveH 16 (fun _ => -1) (fun _ => 256) (fun _ => 0) F K k = H1 at *
    have Q := Lib.hid (And.intro q1 (And.intro q2 (And.intro q3 (And.intro q4 (And.intro q5 q6)))))
    clear q1 q2 q3 q4 q5 q6 hg eL hy hC
    go_wp2_with fail
    refine hG.mono ?_
    rintro _ w3 ⟨rfl, hD⟩
    clear hG c0 c1
    have d0 := cell_of_ob (hD.ob (.head _)) 0
    have d1 := cell_of_ob (hD.ob (.head _)) 1
    simp only [List.getElem?_toArray, List.getElem?_cons_zero, List.getElem?_cons_succ] at d0 d1
    go_wp2_with fail
    refine (hD.count k).mono ?_
    rintro _ w4 ⟨rfl, rfl⟩
    rw [Q.out.1]
    by_cases hx : (k : Int) = x1
    · subst hx
      go_wp2_with fail
      refine (hD.take F K k).mono ?_
      rintro _ w4 ⟨rfl, hE⟩
      rw [Q.out.2.1]
      clear hD d0 d1
      have d0 := cell_of_ob (hE.ob (.head _)) 0
      have d1 := cell_of_ob (hE.ob (.head _)) 1
      simp only [List.getElem?_toArray, List.getElem?_cons_zero, List.getElem?_cons_succ] at d0 d1
      go_wp2_with fail
      refine (hE.count k).mono ?_
      rintro _ w5 ⟨rfl, rfl⟩
      rw [Q.out.2.2.1]
      go_wp2_with fail
      refine (hE.of F).mono ?_
      rintro _ w5 ⟨rfl, rfl⟩
      rw [Q.out.2.2.2.1]
      go_wp2_with fail
      refine (hE.take F K k).mono ?_
      rintro _ w5 ⟨rfl, hG⟩
      rw [Q.out.2.2.2.2.1]
      have hkE := hG.kp
      clear hE hG d0 d1
      go_wp2
      go_ret
      exact ⟨rfl, hkE⟩
    · have hne := Q.out.2.2.2.2.2 x1 hx
      have hne2 : (takeR 16 L1 F K x1 == 0) = false := by simpa using hne
      have hx2 : ((k : Int) != x1) = true := by simpa using hx
      have hT := hD.take F K x1
      have eL : takeL 16 L1 F K x1 = L1 := by unfold takeL; rw [if_neg hne]
      rw [eL] at hT
      generalize takeH 16 L1 H1 F K x1 = H2 at *
      generalize takeR 16 L1 F K x1 = y at *
      clear hne eL hD hx
      go_wp2_with fail
      refine hT.mono ?_
      rintro _ w4 ⟨rfl, hE⟩
      clear hT d0 d1
      have d0 := cell_of_ob (hE.ob (.head _)) 0
      have d1 := cell_of_ob (hE.ob (.head _)) 1
      simp only [List.getElem?_toArray, List.getElem?_cons_zero, List.getElem?_cons_succ] at d0 d1
      go_wp2_with fail
      refine (hE.count k).mono ?_
      rintro _ w5 ⟨rfl, rfl⟩
      rw [Q.out.1]
      go_wp2_with fail
      refine (hE.take F K k).mono ?_
      rintro _ w5 ⟨rfl, hE2⟩
      rw [Q.out.2.1]
      clear hE d0 d1
      have d0 := cell_of_ob (hE2.ob (.head _)) 0
      have d1 := cell_of_ob (hE2.ob (.head _)) 1
      simp only [List.getElem?_toArray, List.getElem?_cons_zero, List.getElem?_cons_succ] at d0 d1
      go_wp2_with fail
      refine (hE2.count k).mono ?_
      rintro _ w6 ⟨rfl, rfl⟩
      rw [Q.out.2.2.1]
      go_wp2_with fail
      refine (hE2.of F).mono ?_
      rintro _ w6 ⟨rfl, rfl⟩
      rw [Q.out.2.2.2.1]
      go_wp2_with fail
      refine (hE2.take F K k).mono ?_
      rintro _ w6 ⟨rfl, hG⟩
      rw [Q.out.2.2.2.2.1]
      have hkE := hG.kp
      clear hE2 hG d0 d1
      go_wp2
      go_ret
      exact ⟨rfl, hkE⟩
  · rw [if_neg hy] at hg
    have hG := hC.give f m x0
    have eL : giveL 16 (fun _ => -1) (fun _ => 256) f m x0 = fun _ => -1 := by unfold giveL; rw [if_neg (by rw [hg]; simp)]
    rw [hg, eL] at hG
    clear hg eL hy hC
    go_wp2_with fail
    refine hG.mono ?_
    rintro _ w3 ⟨rfl, hD⟩
    clear hG c0 c1
    have d0 := cell_of_ob (hD.ob (.head _)) 0
    have d1 := cell_of_ob (hD.ob (.head _)) 1
    simp only [List.getElem?_toArray, List.getElem?_cons_zero, List.getElem?_cons_succ] at d0 d1
    go_wp2_with fail
    refine (hD.count x0).mono ?_
    rintro _ w4 ⟨rfl, rfl⟩
    rw [countR_fresh]
    have hkE := hD.kp
    clear hD d0 d1
    go_wp2
    go_ret
    exact ⟨rfl, hkE⟩
end Go.Proofs.Ytfihnnijcaapkaa
