import Derived.Test.YtfihnnijcaapkaaOe
namespace Go.Proofs.Ytfihnnijcaapkaa
open Go.RowKit
set_option linter.unusedSimpArgs false
set_option linter.unusedVariables false
attribute [local go_sem] ob_alloc ob_drew ob_drewN ob_setCell ob_setBlock objSet_cells obMap_map obClock_map isMapI_map keyI_mk findI_nil findI_cons lookRes_some lookRes_none lookRes_some' lookRes_none' setBlock_alloc mapPut

set_option maxRecDepth 100000 in
set_option maxHeartbeats 800000 in
theorem roGive (w : World) (o g n : Nat) (L M H : Nat → Int) (hO : ROAt w o g n L M) (hI : OInv n L M H) (f m x : Int) : Calls Try.prog 31 #[.pointer (some ⟨o, 0, none⟩), .int .i64 f, .int .i64 m, .int .i64 x] w fun e w' => e = .returned (.int .i64 (giveR n L M f m x)) ∧ ROAt w' o g n (giveL n L M f m x) M ∧ Keep [o, g] w w' := by
  have hk0 := Keep.refl [o, g] w
  have hn2 := hI.n2
  have HO := Lib.hid hO
  by_cases hy : mayB x = true ∧ areB n f m = true
  · obtain ⟨k, rfl, hk⟩ := mayB_out hy.1
    obtain ⟨F, K, rfl, rfl, h1, h2⟩ := areB_out hy.2
    have hk8 : k ≤ 8 := by omega
    have hat := roAre w o g n L M hO hn2 F K
    rw [hy.2] at hat
    have s0 : IntKind.i64.wrap ((F : Int) + (K : Int)) = (F : Int) + (K : Int) := IntWalk.i64_in _ (by omega)
    have c0 := hO.c0
    have Hlo := Lib.hid hI.lo
    cases ha : allB L F K (-1) with
    | false =>
      have e1 : giveR n L M F K k = 4 := by unfold giveR; rw [if_pos hy]; simp [ha]
      have e2 : giveL n L M F K k = L := by unfold giveL; rw [e1]; simp
      rw [e1, e2]
      have HA := Lib.hid ha
      clear e1 e2 hy hI ha
      go_enter Try.func31, Try.ntmps31
      go_wp2_with fail
      refine hat.mono ?_
      rintro _ w2 ⟨rfl, rfl⟩
      clear hat
      go_wp2_with fail
      go_loopg [9] K (fun gn i wr => ∃ j : Nat, i = .int .i64 (F + j : Nat) ∧ j ≤ K ∧ gn = K - j ∧ Hid (∀ i, i < j → L (F + i) = (-1)) ∧ w = wr)
      case atStart => exact ⟨0, rfl, by omega, by omega, Lib.hid (by simp), rfl⟩
      case round =>
        obtain ⟨j, rfl, hj, rfl, hall, rfl⟩ := hrel
        by_cases hlt : j < K
        · have cL := hO.cL (i := F + j) (by omega)
          have hlt2 : F + j < F + K := by omega
          have s3 : ((F + j : Nat) : Int) < (F : Int) + (K : Int) := by omega
          by_cases hz : L (F + j) = (-1)
          · have HB : Hid (∀ i, i < j + 1 → L (F + i) = (-1)) := Lib.hid (fun i hi => by
              by_cases e : i = j
              · subst e; exact hz
              · exact hall.out i (by omega))
            rw [hz] at cL
            clear hz hall hO
            generalize hc : F + j = c at *
            have HC := Lib.hid hc
            clear hc
            go_wp2
            go_roundg (K - (j + 1))
            case measure => omega
            case rel => exact ⟨j + 1, by rw [← Nat.add_assoc, HC.out]; go_num, by omega, rfl, HB, rfl⟩
          · have hp : 0 ≤ L (F + j) := by have := Hlo.out (F + j) (by omega); omega
            generalize L (F + j) = y at *
            generalize F + j = c at *
            clear hz hall hO
            go_wp2
            go_ret
            exact ⟨rfl, HO.out, hk0⟩
        · have hjK : j = K := by omega
          subst hjK
          exact absurd (allB_iff.2 hall.out) (by rw [HA.out]; simp)
    | true =>
      have hb := ocnt_bd L k n
      have hmk := hI.ml k hk
      have cm := hO.cM hk
      have hcc := fun nd => roCount (w.drewN nd) o g n L M H (HO.out.keep (S := []) ((Keep.refl _ _).drewN nd) (by simp) (by simp)) hI k
      unfold countR at hcc
      rw [if_pos hy.1] at hcc
      have s1 : IntKind.i64.wrap (ocnt L k n + (K : Int)) = ocnt L k n + (K : Int) := IntWalk.i64_in _ (by omega)
      have HA := Lib.hid ha
      by_cases hq : M k < ocnt L k n + (K : Int)
      · have e1 : giveR n L M F K k = 12 := by unfold giveR; rw [if_pos hy]; simp only [Int.toNat_natCast, ha, if_true]; rw [if_pos hq]
        have e2 : giveL n L M F K k = L := by unfold giveL; rw [e1]; simp
        rw [e1, e2]
        clear e1 e2 hy hI ha
        generalize ocnt L k n = y at *
        generalize M k = z at *
        go_enter Try.func31, Try.ntmps31
        go_wp2_with fail
        refine hat.mono ?_
        rintro _ w2 ⟨rfl, rfl⟩
        clear hat
        go_wp2_with fail
        go_loopg [9] K (fun gn i wr => ∃ j : Nat, i = .int .i64 (F + j : Nat) ∧ j ≤ K ∧ gn = K - j ∧ w = wr)
        case atStart => exact ⟨0, rfl, by omega, by omega, rfl⟩
        case round =>
          obtain ⟨j, rfl, hj, rfl, rfl⟩ := hrel
          by_cases hlt : j < K
          · have cL := hO.cL (i := F + j) (by omega)
            rw [allB_at HA.out (i := F + j) (by omega) (by omega)] at cL
            have hlt2 : F + j < F + K := by omega
            have s3 : ((F + j : Nat) : Int) < (F : Int) + (K : Int) := by omega
            clear hO
            generalize hc : F + j = c at *
            have HC := Lib.hid hc
            clear hc
            go_wp2
            go_roundg (K - (j + 1))
            case measure => omega
            case rel => exact ⟨j + 1, by rw [← Nat.add_assoc, HC.out]; go_num, by omega, rfl, rfl⟩
          · have hjK : j = K := by omega
            subst hjK
            have s3 : ¬ ((F + j : Nat) : Int) < (F : Int) + (j : Int) := by omega
            have s4 : decide (((F + j : Nat) : Int) < (F : Int) + (j : Int)) = false := by simp
            go_wp2_with fail
            go_quiet ((go_at_call 37; exact q_same (hcc _)))
            have H2 := Lib.hid (And.intro (hO.keep (S := []) ((Keep.refl _ _).drewN nq) (by simp) (by simp)) (hk0.drewN nq))
            clear hO hk0 hcc
            go_wp2
            go_ret
            exact ⟨rfl, H2.out.1, H2.out.2⟩
      · have e1 : giveR n L M F K k = 0 := by unfold giveR; rw [if_pos hy]; simp only [Int.toNat_natCast, ha, if_true]; rw [if_neg hq]
        have e2 : giveL n L M F K k = setL L F K k := by unfold giveL; rw [if_pos e1]; rfl
        rw [e1, e2]
        clear e1 e2 hy hI ha
        generalize ocnt L k n = y at *
        generalize hzz : M k = z at *
        clear hzz
        go_enter Try.func31, Try.ntmps31
        go_wp2_with fail
        refine hat.mono ?_
        rintro _ w2 ⟨rfl, rfl⟩
        clear hat
        go_wp2_with fail
        go_loopg [9] K (fun gn i wr => ∃ j : Nat, i = .int .i64 (F + j : Nat) ∧ j ≤ K ∧ gn = K - j ∧ w = wr)
        case atStart => exact ⟨0, rfl, by omega, by omega, rfl⟩
        case round =>
          obtain ⟨j, rfl, hj, rfl, rfl⟩ := hrel
          by_cases hlt : j < K
          · have cL := hO.cL (i := F + j) (by omega)
            rw [allB_at HA.out (i := F + j) (by omega) (by omega)] at cL
            have hlt2 : F + j < F + K := by omega
            have s3 : ((F + j : Nat) : Int) < (F : Int) + (K : Int) := by omega
            clear hO
            generalize hc : F + j = c at *
            have HC := Lib.hid hc
            clear hc
            go_wp2
            go_roundg (K - (j + 1))
            case measure => omega
            case rel => exact ⟨j + 1, by rw [← Nat.add_assoc, HC.out]; go_num, by omega, rfl, rfl⟩
          · have hjK : j = K := by omega
            subst hjK
            have s3 : ¬ ((F + j : Nat) : Int) < (F : Int) + (j : Int) := by omega
            have s4 : decide (((F + j : Nat) : Int) < (F : Int) + (j : Int)) = false := by simp
            go_wp2_with fail
            go_quiet ((go_at_call 37; exact q_same (hcc _)))
            have hO1 := hO.keep (S := []) ((Keep.refl _ _).drewN nq) (by simp) (by simp)
            have hk1 := hk0.drewN nq
            clear hO hk0 hcc cm
            go_wp2_with fail
            go_loopg [10] j (fun gn i wr => ∃ j2 : Nat, i = .int .i64 (F + j2 : Nat) ∧ j2 ≤ j ∧ gn = j - j2 ∧ ROAt wr o g n (setL L F j2 (k)) M ∧ Keep [o, g] w wr)
            case atStart => exact ⟨0, rfl, by omega, by omega, by rw [setL_zero]; exact hO1, hk1⟩
            case round =>
              clear hO1 hk1
              obtain ⟨j2, rfl, hj2, rfl, hO2, hk2⟩ := hrel
              have c0' := hO2.c0
              by_cases hlt2 : j2 < j
              · have cL := hO2.cL (i := F + j2) (by omega)
                have fL := free_of_ob hO2.hg
                have H2 := Lib.hid (And.intro (hO2.setL1 (F + j2) (k)) (hk2.setCell (.inl (by simp)) (b := g) (F + j2) (.int .i64 (k))))
                have s5 : ((F + j2 : Nat) : Int) < (F : Int) + (j : Int) := by omega
                have hltn : F + j2 < n := by omega
                clear hO2 hk2
                generalize hc : F + j2 = c at *
                have HC := Lib.hid hc
                clear hc
                go_wp2
                go_roundg (j - (j2 + 1))
                case measure => omega
                case rel => exact ⟨j2 + 1, by rw [← Nat.add_assoc, HC.out]; go_num, by omega, rfl, by rw [← setL_step, HC.out]; exact H2.out.1, H2.out.2⟩
              · obtain rfl : j2 = j := by omega
                have s5 : ¬ ((F + j2 : Nat) : Int) < (F : Int) + (j2 : Int) := by omega
                have H2 := Lib.hid (And.intro hO2 hk2)
                clear hO2 hk2
                go_wp2
                go_ret
                exact ⟨rfl, H2.out.1, H2.out.2⟩
  · have e1 : giveR n L M f m x = 1 := by unfold giveR; rw [if_neg hy]
    have e2 : giveL n L M f m x = L := by unfold giveL; rw [e1]; simp
    rw [e1, e2]
    have hat := roAre w o g n L M hO hn2 f m
    have hc : areB n f m = false ∨ (areB n f m = true ∧ x < 0) ∨ (areB n f m = true ∧ 0 ≤ x ∧ 8 < x) := by
      cases ha : areB n f m with
      | false => exact .inl rfl
      | true =>
        have hm : ¬ (0 ≤ x ∧ x ≤ 8) := fun h => hy ⟨by unfold mayB; simpa using h, ha⟩
        by_cases h0 : x < 0
        · exact .inr (.inl ⟨rfl, h0⟩)
        · exact .inr (.inr ⟨rfl, by omega, by omega⟩)
    clear e1 e2 hO hI hy
    rcases hc with h | ⟨h, h2⟩ | ⟨h, h2, h3⟩
    all_goals
      rw [h] at hat
      clear h
      go_enter Try.func31, Try.ntmps31
      go_wp2_with fail
      refine hat.mono ?_
      rintro _ w2 ⟨rfl, rfl⟩
      clear hat
      go_wp2
      go_ret
      exact ⟨rfl, HO.out, hk0⟩
set_option maxRecDepth 100000 in
set_option maxHeartbeats 800000 in
theorem roTake (w : World) (o g n : Nat) (L M H : Nat → Int) (hO : ROAt w o g n L M) (hI : OInv n L M H) (f m x : Int) : Calls Try.prog 33 #[.pointer (some ⟨o, 0, none⟩), .int .i64 f, .int .i64 m, .int .i64 x] w fun e w' => e = .returned (.int .i64 (takeR n L f m x)) ∧ ROAt w' o g n (takeL n L f m x) M ∧ Keep [o, g] w w' := by
  have hk0 := Keep.refl [o, g] w
  have hn2 := hI.n2
  have HO := Lib.hid hO
  by_cases hy : mayB x = true ∧ areB n f m = true
  · obtain ⟨k, rfl, hk⟩ := mayB_out hy.1
    obtain ⟨F, K, rfl, rfl, h1, h2⟩ := areB_out hy.2
    have hk8 : k ≤ 8 := by omega
    have hat := roAre w o g n L M hO hn2 F K
    rw [hy.2] at hat
    have s0 : IntKind.i64.wrap ((F : Int) + (K : Int)) = (F : Int) + (K : Int) := IntWalk.i64_in _ (by omega)
    have c0 := hO.c0
    have Hlo := Lib.hid hI.lo
    cases ha : allB L F K k with
    | false =>
      have e1 : takeR n L F K k = 2 := by unfold takeR; rw [if_pos hy]; simp [ha]
      have e2 : takeL n L F K k = L := by unfold takeL; rw [e1]; simp
      rw [e1, e2]
      have HA := Lib.hid ha
      clear e1 e2 hy hI ha
      go_enter Try.func33, Try.ntmps33
      go_wp2_with fail
      refine hat.mono ?_
      rintro _ w2 ⟨rfl, rfl⟩
      clear hat
      go_wp2_with fail
      go_loopg [9] K (fun gn i wr => ∃ j : Nat, i = .int .i64 (F + j : Nat) ∧ j ≤ K ∧ gn = K - j ∧ Hid (∀ i, i < j → L (F + i) = k) ∧ w = wr)
      case atStart => exact ⟨0, rfl, by omega, by omega, Lib.hid (by simp), rfl⟩
      case round =>
        obtain ⟨j, rfl, hj, rfl, hall, rfl⟩ := hrel
        by_cases hlt : j < K
        · have cL := hO.cL (i := F + j) (by omega)
          have hlt2 : F + j < F + K := by omega
          have s3 : ((F + j : Nat) : Int) < (F : Int) + (K : Int) := by omega
          by_cases hz : L (F + j) = k
          · have HB : Hid (∀ i, i < j + 1 → L (F + i) = k) := Lib.hid (fun i hi => by
              by_cases e : i = j
              · subst e; exact hz
              · exact hall.out i (by omega))
            rw [hz] at cL
            clear hz hall hO
            generalize hc : F + j = c at *
            have HC := Lib.hid hc
            clear hc
            go_wp2
            go_roundg (K - (j + 1))
            case measure => omega
            case rel => exact ⟨j + 1, by rw [← Nat.add_assoc, HC.out]; go_num, by omega, rfl, HB, rfl⟩
          · have hp : (L (F + j) != (k : Int)) = true := by simpa using hz
            generalize L (F + j) = y at *
            generalize F + j = c at *
            clear hz hall hO
            go_wp2
            go_ret
            exact ⟨rfl, HO.out, hk0⟩
        · have hjK : j = K := by omega
          subst hjK
          exact absurd (allB_iff.2 hall.out) (by rw [HA.out]; simp)
    | true =>
      have e1 : takeR n L F K k = 0 := by unfold takeR; rw [if_pos hy]; simp [ha]
      have e2 : takeL n L F K k = setL L F K (-1) := by unfold takeL; rw [if_pos e1]; rfl
      rw [e1, e2]
      have HA := Lib.hid ha
      clear e1 e2 hy hI ha
      go_enter Try.func33, Try.ntmps33
      go_wp2_with fail
      refine hat.mono ?_
      rintro _ w2 ⟨rfl, rfl⟩
      clear hat
      go_wp2_with fail
      go_loopg [9] K (fun gn i wr => ∃ j : Nat, i = .int .i64 (F + j : Nat) ∧ j ≤ K ∧ gn = K - j ∧ w = wr)
      case atStart => exact ⟨0, rfl, by omega, by omega, rfl⟩
      case round =>
        obtain ⟨j, rfl, hj, rfl, rfl⟩ := hrel
        by_cases hlt : j < K
        · have cL := hO.cL (i := F + j) (by omega)
          rw [allB_at HA.out (i := F + j) (by omega) (by omega)] at cL
          have hlt2 : F + j < F + K := by omega
          have s3 : ((F + j : Nat) : Int) < (F : Int) + (K : Int) := by omega
          clear hO
          generalize hc : F + j = c at *
          have HC := Lib.hid hc
          clear hc
          go_wp2
          go_roundg (K - (j + 1))
          case measure => omega
          case rel => exact ⟨j + 1, by rw [← Nat.add_assoc, HC.out]; go_num, by omega, rfl, rfl⟩
        · have hjK : j = K := by omega
          subst hjK
          have s3 : ¬ ((F + j : Nat) : Int) < (F : Int) + (j : Int) := by omega
          have s4 : decide (((F + j : Nat) : Int) < (F : Int) + (j : Int)) = false := by simp
          have hO1 := hO
          have hk1 := hk0
          clear hO hk0
          go_wp2_with fail
          go_loopg [10] j (fun gn i wr => ∃ j2 : Nat, i = .int .i64 (F + j2 : Nat) ∧ j2 ≤ j ∧ gn = j - j2 ∧ ROAt wr o g n (setL L F j2 (-1)) M ∧ Keep [o, g] w wr)
          case atStart => exact ⟨0, rfl, by omega, by omega, by rw [setL_zero]; exact hO1, hk1⟩
          case round =>
            clear hO1 hk1
            obtain ⟨j2, rfl, hj2, rfl, hO2, hk2⟩ := hrel
            have c0' := hO2.c0
            by_cases hlt2 : j2 < j
            · have cL := hO2.cL (i := F + j2) (by omega)
              have fL := free_of_ob hO2.hg
              have H2 := Lib.hid (And.intro (hO2.setL1 (F + j2) (-1)) (hk2.setCell (.inl (by simp)) (b := g) (F + j2) (.int .i64 (-1))))
              have s5 : ((F + j2 : Nat) : Int) < (F : Int) + (j : Int) := by omega
              have hltn : F + j2 < n := by omega
              clear hO2 hk2
              generalize hc : F + j2 = c at *
              have HC := Lib.hid hc
              clear hc
              go_wp2
              go_roundg (j - (j2 + 1))
              case measure => omega
              case rel => exact ⟨j2 + 1, by rw [← Nat.add_assoc, HC.out]; go_num, by omega, rfl, by rw [← setL_step, HC.out]; exact H2.out.1, H2.out.2⟩
            · obtain rfl : j2 = j := by omega
              have s5 : ¬ ((F + j2 : Nat) : Int) < (F : Int) + (j2 : Int) := by omega
              have H2 := Lib.hid (And.intro hO2 hk2)
              clear hO2 hk2
              go_wp2
              go_ret
              exact ⟨rfl, H2.out.1, H2.out.2⟩
  · have e1 : takeR n L f m x = 1 := by unfold takeR; rw [if_neg hy]
    have e2 : takeL n L f m x = L := by unfold takeL; rw [e1]; simp
    rw [e1, e2]
    have hat := roAre w o g n L M hO hn2 f m
    have hc : areB n f m = false ∨ (areB n f m = true ∧ x < 0) ∨ (areB n f m = true ∧ 0 ≤ x ∧ 8 < x) := by
      cases ha : areB n f m with
      | false => exact .inl rfl
      | true =>
        have hm : ¬ (0 ≤ x ∧ x ≤ 8) := fun h => hy ⟨by unfold mayB; simpa using h, ha⟩
        by_cases h0 : x < 0
        · exact .inr (.inl ⟨rfl, h0⟩)
        · exact .inr (.inr ⟨rfl, by omega, by omega⟩)
    clear e1 e2 hO hI hy
    rcases hc with h | ⟨h, h2⟩ | ⟨h, h2, h3⟩
    all_goals
      rw [h] at hat
      clear h
      go_enter Try.func33, Try.ntmps33
      go_wp2_with fail
      refine hat.mono ?_
      rintro _ w2 ⟨rfl, rfl⟩
      clear hat
      go_wp2
      go_ret
      exact ⟨rfl, HO.out, hk0⟩
end Go.Proofs.Ytfihnnijcaapkaa
