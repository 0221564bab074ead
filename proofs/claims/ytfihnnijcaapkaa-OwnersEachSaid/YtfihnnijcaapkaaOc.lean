import Derived.Test.YtfihnnijcaapkaaOb
import Derived.Deep.QuietTactic
import Derived.BigQuiet
namespace Go.Proofs.Ytfihnnijcaapkaa
open Go.RowKit
set_option linter.unusedSimpArgs false
set_option linter.unusedVariables false
attribute [local go_sem] ob_alloc ob_drew ob_drewN ob_setCell ob_setBlock objSet_cells obMap_map obClock_map isMapI_map keyI_mk findI_nil findI_cons lookRes_some lookRes_none lookRes_some' lookRes_none' setBlock_alloc mapPut

set_option maxRecDepth 100000 in
set_option maxHeartbeats 800000 in
theorem oQuota (w : World) (o g n : Nat) (L M H : Nat → Int) (hO : OAt w o g n L M H) (hI : OInv n L M H) (x t : Int) : Calls Try.prog 27 #[.pointer (some ⟨o, 0, none⟩), .int .i64 x, .int .i64 t] w fun e w' => e = .returned (.int .i64 (quotaR n L x t)) ∧ OAt w' o g n L (quotaM n L M x t) H ∧ Keep [o] w w' := by
  have hk0 := Keep.refl [o] w
  cases hm : mayB x with
  | false =>
    have e1 : quotaR n L x t = 1 := by unfold quotaR; rw [hm]; simp
    have e2 : quotaM n L M x t = M := by unfold quotaM; rw [e1]; simp
    rw [e1, e2]
    have HO := Lib.hid hO
    clear e1 e2 hO hI
    go_enter Try.func27, Try.ntmps27
    go_wp2_with fail
    refine (oMay w x).mono ?_
    rintro _ w2 ⟨rfl, rfl⟩
    rw [hm]
    clear hm
    go_wp2
    go_ret
    exact ⟨rfl, HO.out, hk0⟩
  | true =>
    obtain ⟨k, rfl, hk⟩ := mayB_out hm
    have hk8 : k ≤ 8 := by omega
    have HO := Lib.hid hO
    have hc : t < 0 ∨ (0 ≤ t ∧ 256 < t) ∨ (0 ≤ t ∧ t ≤ 256 ∧ t < ocnt L k n) ∨ (0 ≤ t ∧ t ≤ 256 ∧ ocnt L k n ≤ t) := by omega
    rcases hc with h | ⟨h, h2⟩ | ⟨h, h2, h3⟩ | ⟨h, h2, h3⟩
    · have e1 : quotaR n L k t = 1 := by unfold quotaR; rw [if_neg (by omega)]
      have e2 : quotaM n L M k t = M := by unfold quotaM; rw [e1]; simp
      rw [e1, e2]
      clear e1 e2 hO hI
      go_enter Try.func27, Try.ntmps27
      go_wp2_with fail
      refine (oMay w k).mono ?_
      rintro _ w2 ⟨rfl, rfl⟩
      rw [hm]
      clear hm
      go_wp2
      go_ret
      exact ⟨rfl, HO.out, hk0⟩
    · have e1 : quotaR n L k t = 1 := by unfold quotaR; rw [if_neg (by omega)]
      have e2 : quotaM n L M k t = M := by unfold quotaM; rw [e1]; simp
      rw [e1, e2]
      clear e1 e2 hO hI
      go_enter Try.func27, Try.ntmps27
      go_wp2_with fail
      refine (oMay w k).mono ?_
      rintro _ w2 ⟨rfl, rfl⟩
      rw [hm]
      clear hm
      go_wp2
      go_ret
      exact ⟨rfl, HO.out, hk0⟩
    · have e1 : quotaR n L k t = 12 := by unfold quotaR; rw [if_pos ⟨hm, h, h2⟩, if_pos (by omega)]
      have e2 : quotaM n L M k t = M := by unfold quotaM; rw [e1]; simp
      have ck := hO.cH hk
      rw [hI.hh k hk] at ck
      rw [e1, e2]
      generalize ocnt L k n = y at *
      clear e1 e2 hO hI
      go_enter Try.func27, Try.ntmps27
      go_wp2_with fail
      refine (oMay w k).mono ?_
      rintro _ w2 ⟨rfl, rfl⟩
      rw [hm]
      clear hm
      go_wp2
      go_ret
      exact ⟨rfl, HO.out, hk0⟩
    · have e1 : quotaR n L k t = 0 := by unfold quotaR; rw [if_pos ⟨hm, h, h2⟩, if_neg (by omega)]
      have e2 : quotaM n L M k t = updW M k t := by unfold quotaM; rw [if_pos e1]; rfl
      have ck := hO.cH hk
      have cm := hO.cM hk
      have fm := free_of_ob hO.ho
      rw [hI.hh k hk] at ck
      rw [e1, e2]
      have H2 := Lib.hid (And.intro (hO.setM hk t) (hk0.setCell (.inl (by simp)) (b := o) (1 + k) (.int .i64 t)))
      generalize ocnt L k n = y at *
      clear e1 e2 hO hI HO
      go_enter Try.func27, Try.ntmps27
      go_wp2_with fail
      refine (oMay w k).mono ?_
      rintro _ w2 ⟨rfl, rfl⟩
      rw [hm]
      clear hm
      go_wp2
      go_ret
      exact ⟨rfl, H2.out.1, H2.out.2⟩

set_option maxRecDepth 100000 in
set_option maxHeartbeats 800000 in
theorem oGive (w : World) (o g n : Nat) (L M H : Nat → Int) (hO : OAt w o g n L M H) (hI : OInv n L M H) (f m x : Int) : Calls Try.prog 28 #[.pointer (some ⟨o, 0, none⟩), .int .i64 f, .int .i64 m, .int .i64 x] w fun e w' => e = .returned (.int .i64 (giveR n L M f m x)) ∧ OAt w' o g n (giveL n L M f m x) M (giveH n L M H f m x) ∧ Keep [o, g] w w' := by
  have hk0 := Keep.refl [o, g] w
  have hn2 := hI.n2
  have hnil := fun (a : Option Addr) (n c : Nat) (w : World) => eqnil_run (P := Try.prog) Try.underlying72 a n c w
  by_cases hy : mayB x = true ∧ areB n f m = true
  · obtain ⟨k, rfl, hk⟩ := mayB_out hy.1
    obtain ⟨F, K, rfl, rfl, h1, h2⟩ := areB_out hy.2
    cases ha : allB L F K (-1) with
    | false =>
      have e1 : giveR n L M F K k = 4 := by unfold giveR; rw [if_pos hy]; simp [ha]
      have e2 : giveL n L M F K k = L := by unfold giveL; rw [e1]; simp
      have e3 : giveH n L M H F K k = H := by unfold giveH; rw [e1]; simp
      rw [e1, e2, e3]
      clear e1 e2 e3 hy
      go_enter Try.func28, Try.ntmps28
      go_wp2_with fail
      refine (oAre_yes w o g n L M H hO hn2 F K k hk h1 h2).mono ?_
      rintro _ w2 ⟨rfl, rfl⟩
      go_wp2_with fail
      refine (oAll w g n L hO.hg F K (n - F) h2 hn2 (-1)).mono ?_
      rintro _ w2 ⟨rfl, rfl⟩
      rw [ha]
      have HO := Lib.hid hO
      clear hO hI ha
      go_wp2
      go_ret
      exact ⟨rfl, HO.out, hk0⟩
    | true =>
      have ck := hO.cH hk
      have cm := hO.cM hk
      have hb := ocnt_bd L k n
      have hmk := hI.ml k hk
      rw [hI.hh k hk] at ck
      have s1 : IntKind.i64.wrap (ocnt L k n + (K : Int)) = ocnt L k n + (K : Int) := IntWalk.i64_in _ (by omega)
      by_cases hq : M k < ocnt L k n + (K : Int)
      · have e1 : giveR n L M F K k = 12 := by unfold giveR; rw [if_pos hy]; simp only [Int.toNat_natCast, ha, if_true]; rw [if_pos hq]
        have e2 : giveL n L M F K k = L := by unfold giveL; rw [e1]; simp
        have e3 : giveH n L M H F K k = H := by unfold giveH; rw [e1]; simp
        rw [e1, e2, e3]
        clear e1 e2 e3 hy
        go_enter Try.func28, Try.ntmps28
        go_wp2_with fail
        refine (oAre_yes w o g n L M H hO hn2 F K k hk h1 h2).mono ?_
        rintro _ w2 ⟨rfl, rfl⟩
        go_wp2_with fail
        refine (oAll w g n L hO.hg F K (n - F) h2 hn2 (-1)).mono ?_
        rintro _ w2 ⟨rfl, rfl⟩
        rw [ha]
        have HO := Lib.hid hO
        have hk8 : k ≤ 8 := by omega
        generalize ocnt L k n = y at *
        generalize M k = z at *
        clear hO hI ha
        go_wp2_with fail
        go_quiet (fail)
        go_wp2_with fail
        go_ret
        exact ⟨rfl, HO.out.keep (S := []) ((Keep.refl _ _).drewN _) (by simp) (by simp), hk0.drewN _⟩
      · have e1 : giveR n L M F K k = 0 := by unfold giveR; rw [if_pos hy]; simp only [Int.toNat_natCast, ha, if_true]; rw [if_neg hq]
        have e2 : giveL n L M F K k = setL L F K k := by unfold giveL; rw [if_pos e1]; rfl
        have e3 : giveH n L M H F K k = updW H k (ocnt L k n + K) := by unfold giveH; rw [if_pos e1, ← hI.hh k hk]; rfl
        rw [e1, e2, e3]
        clear e1 e2 e3 hy
        go_enter Try.func28, Try.ntmps28
        go_wp2_with fail
        refine (oAre_yes w o g n L M H hO hn2 F K k hk h1 h2).mono ?_
        rintro _ w2 ⟨rfl, rfl⟩
        go_wp2_with fail
        refine (oAll w g n L hO.hg F K (n - F) h2 hn2 (-1)).mono ?_
        rintro _ w2 ⟨rfl, rfl⟩
        rw [ha]
        have HO := Lib.hid hO
        have hH := Lib.hid (hI.hh k hk)
        have hk8 : k ≤ 8 := by omega
        generalize hyy : ocnt L k n = y at *
        generalize hzz : M k = z at *
        have HY := Lib.hid hyy
        clear hO hI ha hyy hzz
        go_wp2_with fail
        go_quiet (fail)
        have hO1 := HO.out.keep (S := []) ((Keep.refl _ _).drewN nq) (by simp) (by simp)
        have hk1 : Keep [o, g] w (w.drewN nq) := hk0.drewN _
        clear HO hk0 ck cm
        go_wp2_with fail
        go_loopg [41] K (fun gn i wr => ∃ j : Nat, i = .int .i64 j ∧ j ≤ K ∧ gn = K - j ∧ OAt wr o g n (setL L F j k) M H ∧ Keep [o, g] w wr)
        case atStart => exact ⟨0, rfl, by omega, by omega, by rw [setL_zero]; exact hO1, hk1⟩
        case round =>
          clear hO1 hk1
          obtain ⟨j, rfl, hj, rfl, hO2, hk2⟩ := hrel
          by_cases hlt : j < K
          · have cL := hO2.cL (i := F + j) (by omega)
            have fL := free_of_ob hO2.hg
            have H2 := Lib.hid (And.intro (hO2.setL1 (F + j) k) (hk2.setCell (.inl (by simp)) (b := g) (F + j) (.int .i64 k)))
            clear hO2 hk2
            go_wp2
            go_roundg (K - (j + 1))
            case measure => omega
            case rel => exact ⟨j + 1, by go_num, by omega, rfl, by rw [← setL_step]; exact H2.out.1, H2.out.2⟩
          · obtain rfl : j = K := by omega
            have ck := hO2.cH hk
            rw [hH.out] at ck
            have fo := free_of_ob hO2.ho
            have H2 := Lib.hid (And.intro ((hO2.setH hk (y + j)).keep (S := []) (Keep.refl _ _).drew (by simp) (by simp)) (hk2.setCell (.inl (by simp)) (b := o) (10 + k) (.int .i64 (y + j))).drew)
            clear hO2 hk2
            go_wp2_with fail
            go_region
            all_goals
              go_wp2
              go_ret
              exact ⟨rfl, by rw [HY.out]; exact H2.out.1, H2.out.2⟩
  · have e1 : giveR n L M f m x = 1 := by unfold giveR; rw [if_neg hy]
    have e2 : giveL n L M f m x = L := by unfold giveL; rw [e1]; simp
    have e3 : giveH n L M H f m x = H := by unfold giveH; rw [e1]; simp
    rw [e1, e2, e3]
    clear e1 e2 e3
    go_enter Try.func28, Try.ntmps28
    go_wp2_with fail
    refine (oAre_no w o g n L M H hO hn2 f m x hy).mono ?_
    rintro _ w2 ⟨rfl, rfl⟩
    have HO := Lib.hid hO
    clear hO hI hy
    go_wp2
    go_ret
    exact ⟨rfl, HO.out, hk0⟩
set_option maxRecDepth 100000 in
set_option maxHeartbeats 800000 in
theorem oTake (w : World) (o g n : Nat) (L M H : Nat → Int) (hO : OAt w o g n L M H) (hI : OInv n L M H) (f m x : Int) : Calls Try.prog 32 #[.pointer (some ⟨o, 0, none⟩), .int .i64 f, .int .i64 m, .int .i64 x] w fun e w' => e = .returned (.int .i64 (takeR n L f m x)) ∧ OAt w' o g n (takeL n L f m x) M (takeH n L H f m x) ∧ Keep [o, g] w w' := by
  have hk0 := Keep.refl [o, g] w
  have hn2 := hI.n2
  have hnil := fun (a : Option Addr) (n c : Nat) (w : World) => eqnil_run (P := Try.prog) Try.underlying72 a n c w
  by_cases hy : mayB x = true ∧ areB n f m = true
  · obtain ⟨k, rfl, hk⟩ := mayB_out hy.1
    obtain ⟨F, K, rfl, rfl, h1, h2⟩ := areB_out hy.2
    cases ha : allB L F K k with
    | false =>
      have e1 : takeR n L F K k = 2 := by unfold takeR; rw [if_pos hy]; simp [ha]
      have e2 : takeL n L F K k = L := by unfold takeL; rw [e1]; simp
      have e3 : takeH n L H F K k = H := by unfold takeH; rw [e1]; simp
      rw [e1, e2, e3]
      clear e1 e2 e3 hy
      go_enter Try.func32, Try.ntmps32
      go_wp2_with fail
      refine (oAre_yes w o g n L M H hO hn2 F K k hk h1 h2).mono ?_
      rintro _ w2 ⟨rfl, rfl⟩
      go_wp2_with fail
      refine (oAll w g n L hO.hg F K (n - F) h2 hn2 k).mono ?_
      rintro _ w2 ⟨rfl, rfl⟩
      rw [ha]
      have HO := Lib.hid hO
      clear hO hI ha
      go_wp2
      go_ret
      exact ⟨rfl, HO.out, hk0⟩
    | true =>
      have hb := ocnt_bd L k n
      have e1 : takeR n L F K k = 0 := by unfold takeR; rw [if_pos hy]; simp [ha]
      have e2 : takeL n L F K k = setL L F K (-1) := by unfold takeL; rw [if_pos e1]; rfl
      have e3 : takeH n L H F K k = updW H k (ocnt L k n - K) := by unfold takeH; rw [if_pos e1, ← hI.hh k hk]; rfl
      rw [e1, e2, e3]
      have s1 : IntKind.i64.wrap (ocnt L k n - (K : Int)) = ocnt L k n - (K : Int) := IntWalk.i64_in _ (by omega)
      clear e1 e2 e3 hy
      go_enter Try.func32, Try.ntmps32
      go_wp2_with fail
      refine (oAre_yes w o g n L M H hO hn2 F K k hk h1 h2).mono ?_
      rintro _ w2 ⟨rfl, rfl⟩
      go_wp2_with fail
      refine (oAll w g n L hO.hg F K (n - F) h2 hn2 k).mono ?_
      rintro _ w2 ⟨rfl, rfl⟩
      rw [ha]
      have hO1 := hO
      have hH := Lib.hid (hI.hh k hk)
      have hk8 : k ≤ 8 := by omega
      generalize hyy : ocnt L k n = y at *
      have HY := Lib.hid hyy
      clear hO hI ha hyy
      go_wp2_with fail
      go_loopg [26] K (fun gn i wr => ∃ j : Nat, i = .int .i64 j ∧ j ≤ K ∧ gn = K - j ∧ OAt wr o g n (setL L F j (-1)) M H ∧ Keep [o, g] w wr)
      case atStart => exact ⟨0, rfl, by omega, by omega, by rw [setL_zero]; exact hO1, hk0⟩
      case round =>
        clear hO1 hk0
        obtain ⟨j, rfl, hj, rfl, hO2, hk2⟩ := hrel
        by_cases hlt : j < K
        · have cL := hO2.cL (i := F + j) (by omega)
          have fL := free_of_ob hO2.hg
          have H2 := Lib.hid (And.intro (hO2.setL1 (F + j) (-1)) (hk2.setCell (.inl (by simp)) (b := g) (F + j) (.int .i64 (-1))))
          clear hO2 hk2
          go_wp2
          go_roundg (K - (j + 1))
          case measure => omega
          case rel => exact ⟨j + 1, by go_num, by omega, rfl, by rw [← setL_step]; exact H2.out.1, H2.out.2⟩
        · obtain rfl : j = K := by omega
          have ck := hO2.cH hk
          rw [hH.out] at ck
          have fo := free_of_ob hO2.ho
          have H2 := Lib.hid (And.intro ((hO2.setH hk (y - j)).keep (S := []) (Keep.refl _ _).drew (by simp) (by simp)) (hk2.setCell (.inl (by simp)) (b := o) (10 + k) (.int .i64 (y - j))).drew)
          clear hO2 hk2
          go_wp2_with fail
          go_region
          all_goals
            go_wp2
            go_ret
            exact ⟨rfl, by rw [HY.out]; exact H2.out.1, H2.out.2⟩
  · have e1 : takeR n L f m x = 1 := by unfold takeR; rw [if_neg hy]
    have e2 : takeL n L f m x = L := by unfold takeL; rw [e1]; simp
    have e3 : takeH n L H f m x = H := by unfold takeH; rw [e1]; simp
    rw [e1, e2, e3]
    clear e1 e2 e3
    go_enter Try.func32, Try.ntmps32
    go_wp2_with fail
    refine (oAre_no w o g n L M H hO hn2 f m x hy).mono ?_
    rintro _ w2 ⟨rfl, rfl⟩
    have HO := Lib.hid hO
    clear hO hI hy
    go_wp2
    go_ret
    exact ⟨rfl, HO.out, hk0⟩
end Go.Proofs.Ytfihnnijcaapkaa
