import Derived.Test.YtehmjjfgefopdaaWc
import Derived.Deep.LoopGhost
import Derived.Deep.RegionHeld3
namespace Go.Proofs.Ytehmjjfgefopdaa
open Go.RowKit
set_option linter.unusedSimpArgs false
set_option linter.unusedVariables false
attribute [local go_sem] ob_alloc ob_drew ob_drewN ob_setCell ob_setBlock objSet_cells obMap_map obClock_map isMapI_map keyI_mk findI_nil findI_cons lookRes_some lookRes_none lookRes_some' lookRes_none' setBlock_alloc mapPut

set_option maxRecDepth 100000 in
set_option maxHeartbeats 4000000 in
theorem pWord (w : World) (e : EN) (he : okE e = true) : Calls Try.prog 36 #[e.val] w fun o w' => o = .returned (.tuple #[.int .u64 (wE e : Nat), .int .i64 0]) ∧ Keep [] w w' := by
  have HE := Lib.hid he
  have hf := okE_f he
  have HP := Lib.hid (fun k hk => put_add (wP e k) (partE e k) (frE k) (limE k) (wP_lt he k hk) (part_lt he k hk) (fl4 k hk))
  have HL := Lib.hid (fun k hk => wP_lt he k hk)
  have HQ := Lib.hid (fun k hk => part_lt he k hk)
  have HR := Lib.hid (fun w => pRight w e he)
  obtain ⟨W4, hW4⟩ : ∃ W4, wE e = W4 := ⟨_, rfl⟩
  have HW4 := Lib.hid hW4
  rw [hW4]
  clear he hW4
  obtain ⟨v, ww, t, f⟩ := e
  have HV : Hid ((⟨v, ww, t, f⟩ : EN).val = .agg #[.bool v, .bool ww, .bool t, .int .i64 (f : Int)]) := Lib.hid rfl
  have hob := Lib.hid (al_new w (.cells #[.bool v, .bool ww, .bool t, .int .i64 (f : Int)] 38) rfl)
  have HK : Hid (Keep [] w (w.alloc (.cells #[.bool v, .bool ww, .bool t, .int .i64 (f : Int)] 38))) := Lib.hid ((Keep.refl [] w).alloc _)
  simp only at hf
  rw [HV.out]
  go_enter Try.func36, Try.ntmps36
  go_wp2_with fail
  generalize w.alloc (.cells #[.bool v, .bool ww, .bool t, .int .i64 (f : Int)] 38) = w1 at *
  generalize w.heap.size = eb at *
  have hcon := HR.out w1
  rw [HV.out] at hcon
  refine hcon.mono ?_
  clear hcon
  rintro _ w2 ⟨rfl, hk2⟩
  have HO2 := Lib.hid (hk2.kp hob.out (by simp))
  have HK2 := Lib.hid (HK.out.trans hk2)
  clear hk2 hob HK
  go_wp2_with fail
  refine (pFields _).mono ?_
  rintro _ w3 ⟨rfl, hk3⟩
  have HO3 := Lib.hid (hk3.kp HO2.out (by simp))
  have HK3 := Lib.hid (HK2.out.trans hk3)
  clear hk3 HO2 HK2
  go_wp2_with fail
  go_loopg [4, 12] 4 (fun gn s4 s12 wr => ∃ k : Nat, s4 = .int .u64 (wP ⟨v, ww, t, f⟩ k : Nat) ∧ s12 = .int .i64 k ∧ k ≤ 4 ∧ gn = 4 - k ∧ ob wr eb = some (.cells #[.bool v, .bool ww, .bool t, .int .i64 (f : Int)] 38 (0, 0)) ∧ Keep [] w wr)
  case atStart => exact ⟨0, rfl, rfl, by omega, rfl, HO3.out, HK3.out⟩
  case round =>
    clear HO3 HK3
    obtain ⟨k, rfl, rfl, hk, rfl, hO, hK⟩ := hrel
    by_cases hlt : k < 4
    · have hk4 : (k : Int) < 4 := by omega
      have hi := fun w => idx99 k hlt w
      have hpl := HQ.out k hlt
      have hX64 : wP ⟨v, ww, t, f⟩ k < 2 ^ 64 := Nat.lt_of_lt_of_le (HL.out k hlt) (Nat.pow_le_pow_right (by omega) (by have := fl4 k hlt; omega))
      have hput := fun w => put_yes (wP ⟨v, ww, t, f⟩ k) (partE ⟨v, ww, t, f⟩ k) hX64 ((frE k : Nat) : Int) ((limE k : Nat) : Int) (okF4 k hlt) (by simpa using hpl) w
      simp only [Int.toNat_natCast] at hput
      rw [HP.out k hlt, show 2 ^ frE k * partE ⟨v, ww, t, f⟩ k + wP ⟨v, ww, t, f⟩ k = wP ⟨v, ww, t, f⟩ (k + 1) from rfl] at hput
      have HPU := Lib.hid hput
      have H0 := Lib.hid hO
      have HK0 := Lib.hid hK
      clear hput hpl hX64 hO hK
      have hA := (Keep.refl [] wr).alloc (.cells #[.int .i64 ((frE k : Nat) : Int), .int .i64 ((limE k : Nat) : Int)] 98)
      have HK1 := Lib.hid (HK0.out.trans hA)
      have H1 := Lib.hid (hA.kp H0.out (by simp))
      have H2 := Lib.hid (al_new wr (.cells #[.int .i64 ((frE k : Nat) : Int), .int .i64 ((limE k : Nat) : Int)] 98) rfl)
      clear H0 HK0 hA
      generalize frE k = fr at *
      generalize limE k = lm at *
      go_upto_region 7 with fail
      generalize wr.alloc (.cells #[.int .i64 (fr : Int), .int .i64 (lm : Int)] 98) = w4 at *
      generalize wr.heap.size = fb at *
      have c0 := cell_of_ob H1.out 0
      have c1 := cell_of_ob H1.out 1
      have c2 := cell_of_ob H1.out 2
      have c3 := cell_of_ob H1.out 3
      have d0 := cell_of_ob H2.out 0
      have d1 := cell_of_ob H2.out 1
      simp only [List.getElem?_toArray, List.getElem?_cons_zero, List.getElem?_cons_succ] at c0 c1 c2 c3 d0 d1
      have lb := ob_lt H1.out
      have lf := ob_lt H2.out
      have hfw : IntKind.u64.wrap (f : Int) = (f : Int) := u64_fit (by omega) (by omega)
      have HKD := fun o => Lib.hid ((HK1.out.alloc o).drew)
      have HOD := fun o => Lib.hid (dr (al H1.out (o' := o)))
      have D0 := fun o => cell_of_ob (dr (al H2.out (o' := o))) 0
      have D1 := fun o => cell_of_ob (dr (al H2.out (o' := o))) 1
      simp only [List.getElem?_toArray, List.getElem?_cons_zero, List.getElem?_cons_succ] at D0 D1
      rcases (show k = 0 ∨ k = 1 ∨ k = 2 ∨ k = 3 by omega) with e | e | e | e
      · subst e
        refine wp_region_held_drew (S := (fun w' => w'.cell? ⟨eb, 0, none⟩ = some (.bool v) ∧ w'.cell? ⟨eb, 1, none⟩ = some (.bool ww) ∧ w'.cell? ⟨eb, 2, none⟩ = some (.bool t) ∧ w'.cell? ⟨eb, 3, none⟩ = some (.int .i64 (f : Int)))) (by kernel_rfl) ⟨c0, c1, c2, c3⟩ (fun hHeld => ?_)
        refine wpAnyH_take (i := 0) (oi := _) (v := ?va0) rfl (by kernel_rfl) (by kernel_rfl) (by kernel_rfl) (fun _ _ _ h => h) (Or.inl ⟨by rfl, ?hya0⟩) (by assumption) ?resta0
        case hya0 => (intro w hSw; (try dsimp only at hSw); go_simp; try with_reducible rfl)
        try simp only [Act.put, List.setIfInBounds_toArray, List.set_cons_zero, List.set_cons_succ]
        refine wpAnyH_take (i := 1) (oi := _) (v := ?va1) rfl (by kernel_rfl) (by kernel_rfl) (by kernel_rfl) (fun _ _ _ h => h) (Or.inl ⟨by rfl, ?hya1⟩) (by assumption) ?resta1
        case hya1 => (intro w hSw; (try dsimp only at hSw); go_simp; try with_reducible rfl)
        try simp only [Act.put, List.setIfInBounds_toArray, List.set_cons_zero, List.set_cons_succ]
        refine wpAnyH_take (i := 3) (oi := _) (v := ?va3) rfl (by kernel_rfl) (by kernel_rfl) (by kernel_rfl) (fun _ _ _ h => h) (Or.inl ⟨by rfl, ?hya3⟩) (by assumption) ?resta3
        case hya3 => (intro w hSw; (try dsimp only at hSw); go_simp; try with_reducible rfl)
        try simp only [Act.put, List.setIfInBounds_toArray, List.set_cons_zero, List.set_cons_succ]
        refine wpAnyH_take (i := 4) (oi := _) (v := ?va4) rfl (by kernel_rfl) (by kernel_rfl) (by kernel_rfl) (fun _ _ _ h => h) (Or.inl ⟨by rfl, ?hya4⟩) (by assumption) ?resta4
        case hya4 => (intro w hSw; (try dsimp only at hSw); go_simp; try with_reducible rfl)
        try simp only [Act.put, List.setIfInBounds_toArray, List.set_cons_zero, List.set_cons_succ]
        refine wpAnyH_take (i := 6) (oi := _) (v := ?va6) rfl (by kernel_rfl) (by kernel_rfl) (by kernel_rfl) (fun _ _ _ h => h) (Or.inl ⟨by rfl, ?hya6⟩) (by assumption) ?resta6
        case hya6 => (intro w hSw; (try dsimp only at hSw); go_simp; try with_reducible rfl)
        try simp only [Act.put, List.setIfInBounds_toArray, List.set_cons_zero, List.set_cons_succ]
        refine wpAnyH_take (i := 7) (oi := _) (v := ?va7) rfl (by kernel_rfl) (by kernel_rfl) (by kernel_rfl) (fun _ _ _ h => h) (Or.inl ⟨by rfl, ?hya7⟩) (by assumption) ?resta7
        case hya7 => (intro w hSw; (try dsimp only at hSw); go_simp; try with_reducible rfl)
        try simp only [Act.put, List.setIfInBounds_toArray, List.set_cons_zero, List.set_cons_succ]
        refine wpAnyH_take (i := 9) (oi := _) (v := ?va9) rfl (by kernel_rfl) (by kernel_rfl) (by kernel_rfl) (fun _ _ _ h => h) (Or.inl ⟨by rfl, ?hya9⟩) (by assumption) ?resta9
        case hya9 => (intro w hSw; (try dsimp only at hSw); go_simp; try with_reducible rfl)
        try simp only [Act.put, List.setIfInBounds_toArray, List.set_cons_zero, List.set_cons_succ]
        refine wpAnyH_take (i := 10) (oi := _) (v := ?va10) rfl (by kernel_rfl) (by kernel_rfl) (by kernel_rfl) (fun _ _ _ h => h) (Or.inl ⟨by rfl, ?hya10⟩) (by assumption) ?resta10
        case hya10 => (intro w hSw; (try dsimp only at hSw); go_simp; try with_reducible rfl)
        try simp only [Act.put, List.setIfInBounds_toArray, List.set_cons_zero, List.set_cons_succ]
        refine wpAnyH_take (i := 11) (oi := _) (v := ?va11) rfl (by kernel_rfl) (by kernel_rfl) (by kernel_rfl) (fun _ _ _ h => h) (Or.inl ⟨by rfl, ?hya11⟩) (by assumption) ?resta11
        case hya11 => (intro w hSw; (try dsimp only at hSw); go_simp; try with_reducible rfl)
        try simp only [Act.put, List.setIfInBounds_toArray, List.set_cons_zero, List.set_cons_succ]
        refine wpAnyH_take (i := 13) (oi := _) (v := ?va13) rfl (by kernel_rfl) (by kernel_rfl) (by kernel_rfl) (fun _ _ _ h => h) (Or.inl ⟨by rfl, ?hya13⟩) (by assumption) ?resta13
        case hya13 => (intro w hSw; (try dsimp only at hSw); go_simp; try with_reducible rfl)
        try simp only [Act.put, List.setIfInBounds_toArray, List.set_cons_zero, List.set_cons_succ]
        refine wpAnyH_ready (rs := [2]) (by kernel_rfl) (by simp) ?_
        refine AllReadyH.cons (o := _) rfl (fun K hK => ?_) AllReadyH.nil
        go_simp
        refine (pFlag _ _).mono ?_
        rintro _ w9 ⟨rfl, rfl⟩
        refine hK.out _ _ ?_ (fun hHeld => ?_)
        · exact ⟨c0, c1, c2, c3⟩
        clear hK K
        try simp only [Act.put, List.setIfInBounds_toArray, List.set_cons_zero, List.set_cons_succ]
        refine wpAnyH_ready (rs := [5]) (by kernel_rfl) (by simp) ?_
        refine AllReadyH.cons (o := _) rfl (fun K hK => ?_) AllReadyH.nil
        go_simp
        refine (pFlag _ _).mono ?_
        rintro _ w9 ⟨rfl, rfl⟩
        refine hK.out _ _ ?_ (fun hHeld => ?_)
        · exact ⟨c0, c1, c2, c3⟩
        clear hK K
        try simp only [Act.put, List.setIfInBounds_toArray, List.set_cons_zero, List.set_cons_succ]
        refine wpAnyH_ready (rs := [8]) (by kernel_rfl) (by simp) ?_
        refine AllReadyH.cons (o := _) rfl (fun K hK => ?_) AllReadyH.nil
        go_simp
        refine (pFlag _ _).mono ?_
        rintro _ w9 ⟨rfl, rfl⟩
        refine hK.out _ _ ?_ (fun hHeld => ?_)
        · exact ⟨c0, c1, c2, c3⟩
        clear hK K
        try simp only [Act.put, List.setIfInBounds_toArray, List.set_cons_zero, List.set_cons_succ]
        refine wpAnyH_ready (rs := [12]) (by kernel_rfl) (by simp) ?_
        refine AllReadyH.cons (o := _) rfl (fun K hK => ?_) AllReadyH.nil
        go_simp
        refine hK.out _ _ ?_ (fun hHeld => ?_)
        · go_keep
        clear hK K
        try simp only [Act.put, List.setIfInBounds_toArray, List.set_cons_zero, List.set_cons_succ]
        refine wpAnyH_take (i := 14) (oi := _) (v := ?va14) rfl (by kernel_rfl) (by kernel_rfl) (by kernel_rfl) (fun _ _ _ h => h) (Or.inl ⟨by rfl, ?hya14⟩) (by assumption) ?resta14
        case hya14 => (intro w hSw; (try dsimp only at hSw); go_simp; try with_reducible rfl)
        try simp only [Act.put, List.setIfInBounds_toArray, List.set_cons_zero, List.set_cons_succ]
        refine wpAnyH_ready (rs := [15]) (by kernel_rfl) (by simp) ?_
        refine AllReadyH.cons (o := _) rfl (fun K hK => ?_) AllReadyH.nil
        go_simp
        refine hK.out _ _ ?_ (fun hHeld => ?_)
        · assumption
        clear hK K
        try simp only [Act.put, List.setIfInBounds_toArray, List.set_cons_zero, List.set_cons_succ]
        refine wpAnyH_take (i := 16) (oi := _) (v := ?va16) rfl (by kernel_rfl) (by kernel_rfl) (by kernel_rfl) (fun _ _ _ h => h) (Or.inl ⟨by rfl, ?hya16⟩) (by assumption) ?resta16
        case hya16 => (intro w hSw; (try dsimp only at hSw); go_simp; try with_reducible rfl)
        try simp only [Act.put, List.setIfInBounds_toArray, List.set_cons_zero, List.set_cons_succ]
        refine wpAnyH_done (by kernel_rfl) ?_ _
        clear c0 c1 c2 c3 d0 d1 hHeld
        clear hfw
        have HKE := HKD (.cells #[.int .u64 (v.toNat : Int), .int .u64 (ww.toNat : Int), .int .u64 (t.toNat : Int), .int .u64 (f : Int)] 83)
        have HOE := HOD (.cells #[.int .u64 (v.toNat : Int), .int .u64 (ww.toNat : Int), .int .u64 (t.toNat : Int), .int .u64 (f : Int)] 83)
        have E0 := D0 (.cells #[.int .u64 (v.toNat : Int), .int .u64 (ww.toNat : Int), .int .u64 (t.toNat : Int), .int .u64 (f : Int)] 83)
        have E1 := D1 (.cells #[.int .u64 (v.toNat : Int), .int .u64 (ww.toNat : Int), .int .u64 (t.toNat : Int), .int .u64 (f : Int)] 83)
        clear D0 D1 HKD HOD
        generalize (w4.alloc (.cells #[.int .u64 (v.toNat : Int), .int .u64 (ww.toNat : Int), .int .u64 (t.toNat : Int), .int .u64 (f : Int)] 83)).drew = w5 at *
        go_wp2_with fail
        refine (HPU.out _).mono ?_
        rintro _ w6 ⟨rfl, hk6⟩
        have HOF := Lib.hid (hk6.kp HOE.out (by simp))
        have HKF := Lib.hid (HKE.out.trans hk6)
        clear hk6 E0 E1
        go_wp2_with fail
        go_roundg (4 - (0 + 1))
        case measure => omega
        case rel => exact ⟨0 + 1, rfl, by go_num, by omega, rfl, HOF.out, HKF.out⟩
      · subst e
        refine wp_region_held_drew (S := (fun w' => w'.cell? ⟨eb, 0, none⟩ = some (.bool v) ∧ w'.cell? ⟨eb, 1, none⟩ = some (.bool ww) ∧ w'.cell? ⟨eb, 2, none⟩ = some (.bool t) ∧ w'.cell? ⟨eb, 3, none⟩ = some (.int .i64 (f : Int)))) (by kernel_rfl) ⟨c0, c1, c2, c3⟩ (fun hHeld => ?_)
        refine wpAnyH_take (i := 0) (oi := _) (v := ?vb0) rfl (by kernel_rfl) (by kernel_rfl) (by kernel_rfl) (fun _ _ _ h => h) (Or.inl ⟨by rfl, ?hyb0⟩) (by assumption) ?restb0
        case hyb0 => (intro w hSw; (try dsimp only at hSw); go_simp; try with_reducible rfl)
        try simp only [Act.put, List.setIfInBounds_toArray, List.set_cons_zero, List.set_cons_succ]
        refine wpAnyH_take (i := 1) (oi := _) (v := ?vb1) rfl (by kernel_rfl) (by kernel_rfl) (by kernel_rfl) (fun _ _ _ h => h) (Or.inl ⟨by rfl, ?hyb1⟩) (by assumption) ?restb1
        case hyb1 => (intro w hSw; (try dsimp only at hSw); go_simp; try with_reducible rfl)
        try simp only [Act.put, List.setIfInBounds_toArray, List.set_cons_zero, List.set_cons_succ]
        refine wpAnyH_take (i := 3) (oi := _) (v := ?vb3) rfl (by kernel_rfl) (by kernel_rfl) (by kernel_rfl) (fun _ _ _ h => h) (Or.inl ⟨by rfl, ?hyb3⟩) (by assumption) ?restb3
        case hyb3 => (intro w hSw; (try dsimp only at hSw); go_simp; try with_reducible rfl)
        try simp only [Act.put, List.setIfInBounds_toArray, List.set_cons_zero, List.set_cons_succ]
        refine wpAnyH_take (i := 4) (oi := _) (v := ?vb4) rfl (by kernel_rfl) (by kernel_rfl) (by kernel_rfl) (fun _ _ _ h => h) (Or.inl ⟨by rfl, ?hyb4⟩) (by assumption) ?restb4
        case hyb4 => (intro w hSw; (try dsimp only at hSw); go_simp; try with_reducible rfl)
        try simp only [Act.put, List.setIfInBounds_toArray, List.set_cons_zero, List.set_cons_succ]
        refine wpAnyH_take (i := 6) (oi := _) (v := ?vb6) rfl (by kernel_rfl) (by kernel_rfl) (by kernel_rfl) (fun _ _ _ h => h) (Or.inl ⟨by rfl, ?hyb6⟩) (by assumption) ?restb6
        case hyb6 => (intro w hSw; (try dsimp only at hSw); go_simp; try with_reducible rfl)
        try simp only [Act.put, List.setIfInBounds_toArray, List.set_cons_zero, List.set_cons_succ]
        refine wpAnyH_take (i := 7) (oi := _) (v := ?vb7) rfl (by kernel_rfl) (by kernel_rfl) (by kernel_rfl) (fun _ _ _ h => h) (Or.inl ⟨by rfl, ?hyb7⟩) (by assumption) ?restb7
        case hyb7 => (intro w hSw; (try dsimp only at hSw); go_simp; try with_reducible rfl)
        try simp only [Act.put, List.setIfInBounds_toArray, List.set_cons_zero, List.set_cons_succ]
        refine wpAnyH_take (i := 9) (oi := _) (v := ?vb9) rfl (by kernel_rfl) (by kernel_rfl) (by kernel_rfl) (fun _ _ _ h => h) (Or.inl ⟨by rfl, ?hyb9⟩) (by assumption) ?restb9
        case hyb9 => (intro w hSw; (try dsimp only at hSw); go_simp; try with_reducible rfl)
        try simp only [Act.put, List.setIfInBounds_toArray, List.set_cons_zero, List.set_cons_succ]
        refine wpAnyH_take (i := 10) (oi := _) (v := ?vb10) rfl (by kernel_rfl) (by kernel_rfl) (by kernel_rfl) (fun _ _ _ h => h) (Or.inl ⟨by rfl, ?hyb10⟩) (by assumption) ?restb10
        case hyb10 => (intro w hSw; (try dsimp only at hSw); go_simp; try with_reducible rfl)
        try simp only [Act.put, List.setIfInBounds_toArray, List.set_cons_zero, List.set_cons_succ]
        refine wpAnyH_take (i := 11) (oi := _) (v := ?vb11) rfl (by kernel_rfl) (by kernel_rfl) (by kernel_rfl) (fun _ _ _ h => h) (Or.inl ⟨by rfl, ?hyb11⟩) (by assumption) ?restb11
        case hyb11 => (intro w hSw; (try dsimp only at hSw); go_simp; try with_reducible rfl)
        try simp only [Act.put, List.setIfInBounds_toArray, List.set_cons_zero, List.set_cons_succ]
        refine wpAnyH_take (i := 13) (oi := _) (v := ?vb13) rfl (by kernel_rfl) (by kernel_rfl) (by kernel_rfl) (fun _ _ _ h => h) (Or.inl ⟨by rfl, ?hyb13⟩) (by assumption) ?restb13
        case hyb13 => (intro w hSw; (try dsimp only at hSw); go_simp; try with_reducible rfl)
        try simp only [Act.put, List.setIfInBounds_toArray, List.set_cons_zero, List.set_cons_succ]
        refine wpAnyH_ready (rs := [2]) (by kernel_rfl) (by simp) ?_
        refine AllReadyH.cons (o := _) rfl (fun K hK => ?_) AllReadyH.nil
        go_simp
        refine (pFlag _ _).mono ?_
        rintro _ w9 ⟨rfl, rfl⟩
        refine hK.out _ _ ?_ (fun hHeld => ?_)
        · exact ⟨c0, c1, c2, c3⟩
        clear hK K
        try simp only [Act.put, List.setIfInBounds_toArray, List.set_cons_zero, List.set_cons_succ]
        refine wpAnyH_ready (rs := [5]) (by kernel_rfl) (by simp) ?_
        refine AllReadyH.cons (o := _) rfl (fun K hK => ?_) AllReadyH.nil
        go_simp
        refine (pFlag _ _).mono ?_
        rintro _ w9 ⟨rfl, rfl⟩
        refine hK.out _ _ ?_ (fun hHeld => ?_)
        · exact ⟨c0, c1, c2, c3⟩
        clear hK K
        try simp only [Act.put, List.setIfInBounds_toArray, List.set_cons_zero, List.set_cons_succ]
        refine wpAnyH_ready (rs := [8]) (by kernel_rfl) (by simp) ?_
        refine AllReadyH.cons (o := _) rfl (fun K hK => ?_) AllReadyH.nil
        go_simp
        refine (pFlag _ _).mono ?_
        rintro _ w9 ⟨rfl, rfl⟩
        refine hK.out _ _ ?_ (fun hHeld => ?_)
        · exact ⟨c0, c1, c2, c3⟩
        clear hK K
        try simp only [Act.put, List.setIfInBounds_toArray, List.set_cons_zero, List.set_cons_succ]
        refine wpAnyH_ready (rs := [12]) (by kernel_rfl) (by simp) ?_
        refine AllReadyH.cons (o := _) rfl (fun K hK => ?_) AllReadyH.nil
        go_simp
        refine hK.out _ _ ?_ (fun hHeld => ?_)
        · go_keep
        clear hK K
        try simp only [Act.put, List.setIfInBounds_toArray, List.set_cons_zero, List.set_cons_succ]
        refine wpAnyH_take (i := 14) (oi := _) (v := ?vb14) rfl (by kernel_rfl) (by kernel_rfl) (by kernel_rfl) (fun _ _ _ h => h) (Or.inl ⟨by rfl, ?hyb14⟩) (by assumption) ?restb14
        case hyb14 => (intro w hSw; (try dsimp only at hSw); go_simp; try with_reducible rfl)
        try simp only [Act.put, List.setIfInBounds_toArray, List.set_cons_zero, List.set_cons_succ]
        refine wpAnyH_ready (rs := [15]) (by kernel_rfl) (by simp) ?_
        refine AllReadyH.cons (o := _) rfl (fun K hK => ?_) AllReadyH.nil
        go_simp
        refine hK.out _ _ ?_ (fun hHeld => ?_)
        · assumption
        clear hK K
        try simp only [Act.put, List.setIfInBounds_toArray, List.set_cons_zero, List.set_cons_succ]
        refine wpAnyH_take (i := 16) (oi := _) (v := ?vb16) rfl (by kernel_rfl) (by kernel_rfl) (by kernel_rfl) (fun _ _ _ h => h) (Or.inl ⟨by rfl, ?hyb16⟩) (by assumption) ?restb16
        case hyb16 => (intro w hSw; (try dsimp only at hSw); go_simp; try with_reducible rfl)
        try simp only [Act.put, List.setIfInBounds_toArray, List.set_cons_zero, List.set_cons_succ]
        refine wpAnyH_done (by kernel_rfl) ?_ _
        clear c0 c1 c2 c3 d0 d1 hHeld
        clear hfw
        have HKE := HKD (.cells #[.int .u64 (v.toNat : Int), .int .u64 (ww.toNat : Int), .int .u64 (t.toNat : Int), .int .u64 (f : Int)] 83)
        have HOE := HOD (.cells #[.int .u64 (v.toNat : Int), .int .u64 (ww.toNat : Int), .int .u64 (t.toNat : Int), .int .u64 (f : Int)] 83)
        have E0 := D0 (.cells #[.int .u64 (v.toNat : Int), .int .u64 (ww.toNat : Int), .int .u64 (t.toNat : Int), .int .u64 (f : Int)] 83)
        have E1 := D1 (.cells #[.int .u64 (v.toNat : Int), .int .u64 (ww.toNat : Int), .int .u64 (t.toNat : Int), .int .u64 (f : Int)] 83)
        clear D0 D1 HKD HOD
        generalize (w4.alloc (.cells #[.int .u64 (v.toNat : Int), .int .u64 (ww.toNat : Int), .int .u64 (t.toNat : Int), .int .u64 (f : Int)] 83)).drew = w5 at *
        go_wp2_with fail
        refine (HPU.out _).mono ?_
        rintro _ w6 ⟨rfl, hk6⟩
        have HOF := Lib.hid (hk6.kp HOE.out (by simp))
        have HKF := Lib.hid (HKE.out.trans hk6)
        clear hk6 E0 E1
        go_wp2_with fail
        go_roundg (4 - (1 + 1))
        case measure => omega
        case rel => exact ⟨1 + 1, rfl, by go_num, by omega, rfl, HOF.out, HKF.out⟩
      · subst e
        refine wp_region_held_drew (S := (fun w' => w'.cell? ⟨eb, 0, none⟩ = some (.bool v) ∧ w'.cell? ⟨eb, 1, none⟩ = some (.bool ww) ∧ w'.cell? ⟨eb, 2, none⟩ = some (.bool t) ∧ w'.cell? ⟨eb, 3, none⟩ = some (.int .i64 (f : Int)))) (by kernel_rfl) ⟨c0, c1, c2, c3⟩ (fun hHeld => ?_)
        refine wpAnyH_take (i := 0) (oi := _) (v := ?vc0) rfl (by kernel_rfl) (by kernel_rfl) (by kernel_rfl) (fun _ _ _ h => h) (Or.inl ⟨by rfl, ?hyc0⟩) (by assumption) ?restc0
        case hyc0 => (intro w hSw; (try dsimp only at hSw); go_simp; try with_reducible rfl)
        try simp only [Act.put, List.setIfInBounds_toArray, List.set_cons_zero, List.set_cons_succ]
        refine wpAnyH_take (i := 1) (oi := _) (v := ?vc1) rfl (by kernel_rfl) (by kernel_rfl) (by kernel_rfl) (fun _ _ _ h => h) (Or.inl ⟨by rfl, ?hyc1⟩) (by assumption) ?restc1
        case hyc1 => (intro w hSw; (try dsimp only at hSw); go_simp; try with_reducible rfl)
        try simp only [Act.put, List.setIfInBounds_toArray, List.set_cons_zero, List.set_cons_succ]
        refine wpAnyH_take (i := 3) (oi := _) (v := ?vc3) rfl (by kernel_rfl) (by kernel_rfl) (by kernel_rfl) (fun _ _ _ h => h) (Or.inl ⟨by rfl, ?hyc3⟩) (by assumption) ?restc3
        case hyc3 => (intro w hSw; (try dsimp only at hSw); go_simp; try with_reducible rfl)
        try simp only [Act.put, List.setIfInBounds_toArray, List.set_cons_zero, List.set_cons_succ]
        refine wpAnyH_take (i := 4) (oi := _) (v := ?vc4) rfl (by kernel_rfl) (by kernel_rfl) (by kernel_rfl) (fun _ _ _ h => h) (Or.inl ⟨by rfl, ?hyc4⟩) (by assumption) ?restc4
        case hyc4 => (intro w hSw; (try dsimp only at hSw); go_simp; try with_reducible rfl)
        try simp only [Act.put, List.setIfInBounds_toArray, List.set_cons_zero, List.set_cons_succ]
        refine wpAnyH_take (i := 6) (oi := _) (v := ?vc6) rfl (by kernel_rfl) (by kernel_rfl) (by kernel_rfl) (fun _ _ _ h => h) (Or.inl ⟨by rfl, ?hyc6⟩) (by assumption) ?restc6
        case hyc6 => (intro w hSw; (try dsimp only at hSw); go_simp; try with_reducible rfl)
        try simp only [Act.put, List.setIfInBounds_toArray, List.set_cons_zero, List.set_cons_succ]
        refine wpAnyH_take (i := 7) (oi := _) (v := ?vc7) rfl (by kernel_rfl) (by kernel_rfl) (by kernel_rfl) (fun _ _ _ h => h) (Or.inl ⟨by rfl, ?hyc7⟩) (by assumption) ?restc7
        case hyc7 => (intro w hSw; (try dsimp only at hSw); go_simp; try with_reducible rfl)
        try simp only [Act.put, List.setIfInBounds_toArray, List.set_cons_zero, List.set_cons_succ]
        refine wpAnyH_take (i := 9) (oi := _) (v := ?vc9) rfl (by kernel_rfl) (by kernel_rfl) (by kernel_rfl) (fun _ _ _ h => h) (Or.inl ⟨by rfl, ?hyc9⟩) (by assumption) ?restc9
        case hyc9 => (intro w hSw; (try dsimp only at hSw); go_simp; try with_reducible rfl)
        try simp only [Act.put, List.setIfInBounds_toArray, List.set_cons_zero, List.set_cons_succ]
        refine wpAnyH_take (i := 10) (oi := _) (v := ?vc10) rfl (by kernel_rfl) (by kernel_rfl) (by kernel_rfl) (fun _ _ _ h => h) (Or.inl ⟨by rfl, ?hyc10⟩) (by assumption) ?restc10
        case hyc10 => (intro w hSw; (try dsimp only at hSw); go_simp; try with_reducible rfl)
        try simp only [Act.put, List.setIfInBounds_toArray, List.set_cons_zero, List.set_cons_succ]
        refine wpAnyH_take (i := 11) (oi := _) (v := ?vc11) rfl (by kernel_rfl) (by kernel_rfl) (by kernel_rfl) (fun _ _ _ h => h) (Or.inl ⟨by rfl, ?hyc11⟩) (by assumption) ?restc11
        case hyc11 => (intro w hSw; (try dsimp only at hSw); go_simp; try with_reducible rfl)
        try simp only [Act.put, List.setIfInBounds_toArray, List.set_cons_zero, List.set_cons_succ]
        refine wpAnyH_take (i := 13) (oi := _) (v := ?vc13) rfl (by kernel_rfl) (by kernel_rfl) (by kernel_rfl) (fun _ _ _ h => h) (Or.inl ⟨by rfl, ?hyc13⟩) (by assumption) ?restc13
        case hyc13 => (intro w hSw; (try dsimp only at hSw); go_simp; try with_reducible rfl)
        try simp only [Act.put, List.setIfInBounds_toArray, List.set_cons_zero, List.set_cons_succ]
        refine wpAnyH_ready (rs := [2]) (by kernel_rfl) (by simp) ?_
        refine AllReadyH.cons (o := _) rfl (fun K hK => ?_) AllReadyH.nil
        go_simp
        refine (pFlag _ _).mono ?_
        rintro _ w9 ⟨rfl, rfl⟩
        refine hK.out _ _ ?_ (fun hHeld => ?_)
        · exact ⟨c0, c1, c2, c3⟩
        clear hK K
        try simp only [Act.put, List.setIfInBounds_toArray, List.set_cons_zero, List.set_cons_succ]
        refine wpAnyH_ready (rs := [5]) (by kernel_rfl) (by simp) ?_
        refine AllReadyH.cons (o := _) rfl (fun K hK => ?_) AllReadyH.nil
        go_simp
        refine (pFlag _ _).mono ?_
        rintro _ w9 ⟨rfl, rfl⟩
        refine hK.out _ _ ?_ (fun hHeld => ?_)
        · exact ⟨c0, c1, c2, c3⟩
        clear hK K
        try simp only [Act.put, List.setIfInBounds_toArray, List.set_cons_zero, List.set_cons_succ]
        refine wpAnyH_ready (rs := [8]) (by kernel_rfl) (by simp) ?_
        refine AllReadyH.cons (o := _) rfl (fun K hK => ?_) AllReadyH.nil
        go_simp
        refine (pFlag _ _).mono ?_
        rintro _ w9 ⟨rfl, rfl⟩
        refine hK.out _ _ ?_ (fun hHeld => ?_)
        · exact ⟨c0, c1, c2, c3⟩
        clear hK K
        try simp only [Act.put, List.setIfInBounds_toArray, List.set_cons_zero, List.set_cons_succ]
        refine wpAnyH_ready (rs := [12]) (by kernel_rfl) (by simp) ?_
        refine AllReadyH.cons (o := _) rfl (fun K hK => ?_) AllReadyH.nil
        go_simp
        refine hK.out _ _ ?_ (fun hHeld => ?_)
        · go_keep
        clear hK K
        try simp only [Act.put, List.setIfInBounds_toArray, List.set_cons_zero, List.set_cons_succ]
        refine wpAnyH_take (i := 14) (oi := _) (v := ?vc14) rfl (by kernel_rfl) (by kernel_rfl) (by kernel_rfl) (fun _ _ _ h => h) (Or.inl ⟨by rfl, ?hyc14⟩) (by assumption) ?restc14
        case hyc14 => (intro w hSw; (try dsimp only at hSw); go_simp; try with_reducible rfl)
        try simp only [Act.put, List.setIfInBounds_toArray, List.set_cons_zero, List.set_cons_succ]
        refine wpAnyH_ready (rs := [15]) (by kernel_rfl) (by simp) ?_
        refine AllReadyH.cons (o := _) rfl (fun K hK => ?_) AllReadyH.nil
        go_simp
        refine hK.out _ _ ?_ (fun hHeld => ?_)
        · assumption
        clear hK K
        try simp only [Act.put, List.setIfInBounds_toArray, List.set_cons_zero, List.set_cons_succ]
        refine wpAnyH_take (i := 16) (oi := _) (v := ?vc16) rfl (by kernel_rfl) (by kernel_rfl) (by kernel_rfl) (fun _ _ _ h => h) (Or.inl ⟨by rfl, ?hyc16⟩) (by assumption) ?restc16
        case hyc16 => (intro w hSw; (try dsimp only at hSw); go_simp; try with_reducible rfl)
        try simp only [Act.put, List.setIfInBounds_toArray, List.set_cons_zero, List.set_cons_succ]
        refine wpAnyH_done (by kernel_rfl) ?_ _
        clear c0 c1 c2 c3 d0 d1 hHeld
        clear hfw
        have HKE := HKD (.cells #[.int .u64 (v.toNat : Int), .int .u64 (ww.toNat : Int), .int .u64 (t.toNat : Int), .int .u64 (f : Int)] 83)
        have HOE := HOD (.cells #[.int .u64 (v.toNat : Int), .int .u64 (ww.toNat : Int), .int .u64 (t.toNat : Int), .int .u64 (f : Int)] 83)
        have E0 := D0 (.cells #[.int .u64 (v.toNat : Int), .int .u64 (ww.toNat : Int), .int .u64 (t.toNat : Int), .int .u64 (f : Int)] 83)
        have E1 := D1 (.cells #[.int .u64 (v.toNat : Int), .int .u64 (ww.toNat : Int), .int .u64 (t.toNat : Int), .int .u64 (f : Int)] 83)
        clear D0 D1 HKD HOD
        generalize (w4.alloc (.cells #[.int .u64 (v.toNat : Int), .int .u64 (ww.toNat : Int), .int .u64 (t.toNat : Int), .int .u64 (f : Int)] 83)).drew = w5 at *
        go_wp2_with fail
        refine (HPU.out _).mono ?_
        rintro _ w6 ⟨rfl, hk6⟩
        have HOF := Lib.hid (hk6.kp HOE.out (by simp))
        have HKF := Lib.hid (HKE.out.trans hk6)
        clear hk6 E0 E1
        go_wp2_with fail
        go_roundg (4 - (2 + 1))
        case measure => omega
        case rel => exact ⟨2 + 1, rfl, by go_num, by omega, rfl, HOF.out, HKF.out⟩
      · subst e
        refine wp_region_held_drew (S := (fun w' => w'.cell? ⟨eb, 0, none⟩ = some (.bool v) ∧ w'.cell? ⟨eb, 1, none⟩ = some (.bool ww) ∧ w'.cell? ⟨eb, 2, none⟩ = some (.bool t) ∧ w'.cell? ⟨eb, 3, none⟩ = some (.int .i64 (f : Int)))) (by kernel_rfl) ⟨c0, c1, c2, c3⟩ (fun hHeld => ?_)
        refine wpAnyH_take (i := 0) (oi := _) (v := ?vd0) rfl (by kernel_rfl) (by kernel_rfl) (by kernel_rfl) (fun _ _ _ h => h) (Or.inl ⟨by rfl, ?hyd0⟩) (by assumption) ?restd0
        case hyd0 => (intro w hSw; (try dsimp only at hSw); go_simp; try with_reducible rfl)
        try simp only [Act.put, List.setIfInBounds_toArray, List.set_cons_zero, List.set_cons_succ]
        refine wpAnyH_take (i := 1) (oi := _) (v := ?vd1) rfl (by kernel_rfl) (by kernel_rfl) (by kernel_rfl) (fun _ _ _ h => h) (Or.inl ⟨by rfl, ?hyd1⟩) (by assumption) ?restd1
        case hyd1 => (intro w hSw; (try dsimp only at hSw); go_simp; try with_reducible rfl)
        try simp only [Act.put, List.setIfInBounds_toArray, List.set_cons_zero, List.set_cons_succ]
        refine wpAnyH_take (i := 3) (oi := _) (v := ?vd3) rfl (by kernel_rfl) (by kernel_rfl) (by kernel_rfl) (fun _ _ _ h => h) (Or.inl ⟨by rfl, ?hyd3⟩) (by assumption) ?restd3
        case hyd3 => (intro w hSw; (try dsimp only at hSw); go_simp; try with_reducible rfl)
        try simp only [Act.put, List.setIfInBounds_toArray, List.set_cons_zero, List.set_cons_succ]
        refine wpAnyH_take (i := 4) (oi := _) (v := ?vd4) rfl (by kernel_rfl) (by kernel_rfl) (by kernel_rfl) (fun _ _ _ h => h) (Or.inl ⟨by rfl, ?hyd4⟩) (by assumption) ?restd4
        case hyd4 => (intro w hSw; (try dsimp only at hSw); go_simp; try with_reducible rfl)
        try simp only [Act.put, List.setIfInBounds_toArray, List.set_cons_zero, List.set_cons_succ]
        refine wpAnyH_take (i := 6) (oi := _) (v := ?vd6) rfl (by kernel_rfl) (by kernel_rfl) (by kernel_rfl) (fun _ _ _ h => h) (Or.inl ⟨by rfl, ?hyd6⟩) (by assumption) ?restd6
        case hyd6 => (intro w hSw; (try dsimp only at hSw); go_simp; try with_reducible rfl)
        try simp only [Act.put, List.setIfInBounds_toArray, List.set_cons_zero, List.set_cons_succ]
        refine wpAnyH_take (i := 7) (oi := _) (v := ?vd7) rfl (by kernel_rfl) (by kernel_rfl) (by kernel_rfl) (fun _ _ _ h => h) (Or.inl ⟨by rfl, ?hyd7⟩) (by assumption) ?restd7
        case hyd7 => (intro w hSw; (try dsimp only at hSw); go_simp; try with_reducible rfl)
        try simp only [Act.put, List.setIfInBounds_toArray, List.set_cons_zero, List.set_cons_succ]
        refine wpAnyH_take (i := 9) (oi := _) (v := ?vd9) rfl (by kernel_rfl) (by kernel_rfl) (by kernel_rfl) (fun _ _ _ h => h) (Or.inl ⟨by rfl, ?hyd9⟩) (by assumption) ?restd9
        case hyd9 => (intro w hSw; (try dsimp only at hSw); go_simp; try with_reducible rfl)
        try simp only [Act.put, List.setIfInBounds_toArray, List.set_cons_zero, List.set_cons_succ]
        refine wpAnyH_take (i := 10) (oi := _) (v := ?vd10) rfl (by kernel_rfl) (by kernel_rfl) (by kernel_rfl) (fun _ _ _ h => h) (Or.inl ⟨by rfl, ?hyd10⟩) (by assumption) ?restd10
        case hyd10 => (intro w hSw; (try dsimp only at hSw); go_simp; try with_reducible rfl)
        try simp only [Act.put, List.setIfInBounds_toArray, List.set_cons_zero, List.set_cons_succ]
        refine wpAnyH_take (i := 11) (oi := _) (v := ?vd11) rfl (by kernel_rfl) (by kernel_rfl) (by kernel_rfl) (fun _ _ _ h => h) (Or.inl ⟨by rfl, ?hyd11⟩) (by assumption) ?restd11
        case hyd11 => (intro w hSw; (try dsimp only at hSw); go_simp; try with_reducible rfl)
        try simp only [Act.put, List.setIfInBounds_toArray, List.set_cons_zero, List.set_cons_succ]
        refine wpAnyH_take (i := 13) (oi := _) (v := ?vd13) rfl (by kernel_rfl) (by kernel_rfl) (by kernel_rfl) (fun _ _ _ h => h) (Or.inl ⟨by rfl, ?hyd13⟩) (by assumption) ?restd13
        case hyd13 => (intro w hSw; (try dsimp only at hSw); go_simp; try with_reducible rfl)
        try simp only [Act.put, List.setIfInBounds_toArray, List.set_cons_zero, List.set_cons_succ]
        refine wpAnyH_ready (rs := [2]) (by kernel_rfl) (by simp) ?_
        refine AllReadyH.cons (o := _) rfl (fun K hK => ?_) AllReadyH.nil
        go_simp
        refine (pFlag _ _).mono ?_
        rintro _ w9 ⟨rfl, rfl⟩
        refine hK.out _ _ ?_ (fun hHeld => ?_)
        · exact ⟨c0, c1, c2, c3⟩
        clear hK K
        try simp only [Act.put, List.setIfInBounds_toArray, List.set_cons_zero, List.set_cons_succ]
        refine wpAnyH_ready (rs := [5]) (by kernel_rfl) (by simp) ?_
        refine AllReadyH.cons (o := _) rfl (fun K hK => ?_) AllReadyH.nil
        go_simp
        refine (pFlag _ _).mono ?_
        rintro _ w9 ⟨rfl, rfl⟩
        refine hK.out _ _ ?_ (fun hHeld => ?_)
        · exact ⟨c0, c1, c2, c3⟩
        clear hK K
        try simp only [Act.put, List.setIfInBounds_toArray, List.set_cons_zero, List.set_cons_succ]
        refine wpAnyH_ready (rs := [8]) (by kernel_rfl) (by simp) ?_
        refine AllReadyH.cons (o := _) rfl (fun K hK => ?_) AllReadyH.nil
        go_simp
        refine (pFlag _ _).mono ?_
        rintro _ w9 ⟨rfl, rfl⟩
        refine hK.out _ _ ?_ (fun hHeld => ?_)
        · exact ⟨c0, c1, c2, c3⟩
        clear hK K
        try simp only [Act.put, List.setIfInBounds_toArray, List.set_cons_zero, List.set_cons_succ]
        refine wpAnyH_ready (rs := [12]) (by kernel_rfl) (by simp) ?_
        refine AllReadyH.cons (o := _) rfl (fun K hK => ?_) AllReadyH.nil
        go_simp
        refine hK.out _ _ ?_ (fun hHeld => ?_)
        · go_keep
        clear hK K
        try simp only [Act.put, List.setIfInBounds_toArray, List.set_cons_zero, List.set_cons_succ]
        refine wpAnyH_take (i := 14) (oi := _) (v := ?vd14) rfl (by kernel_rfl) (by kernel_rfl) (by kernel_rfl) (fun _ _ _ h => h) (Or.inl ⟨by rfl, ?hyd14⟩) (by assumption) ?restd14
        case hyd14 => (intro w hSw; (try dsimp only at hSw); go_simp; try with_reducible rfl)
        try simp only [Act.put, List.setIfInBounds_toArray, List.set_cons_zero, List.set_cons_succ]
        refine wpAnyH_ready (rs := [15]) (by kernel_rfl) (by simp) ?_
        refine AllReadyH.cons (o := _) rfl (fun K hK => ?_) AllReadyH.nil
        go_simp
        refine hK.out _ _ ?_ (fun hHeld => ?_)
        · assumption
        clear hK K
        try simp only [Act.put, List.setIfInBounds_toArray, List.set_cons_zero, List.set_cons_succ]
        refine wpAnyH_take (i := 16) (oi := _) (v := ?vd16) rfl (by kernel_rfl) (by kernel_rfl) (by kernel_rfl) (fun _ _ _ h => h) (Or.inl ⟨by rfl, ?hyd16⟩) (by assumption) ?restd16
        case hyd16 => (intro w hSw; (try dsimp only at hSw); go_simp; try with_reducible rfl)
        try simp only [Act.put, List.setIfInBounds_toArray, List.set_cons_zero, List.set_cons_succ]
        refine wpAnyH_done (by kernel_rfl) ?_ _
        clear c0 c1 c2 c3 d0 d1 hHeld
        clear hfw
        have HKE := HKD (.cells #[.int .u64 (v.toNat : Int), .int .u64 (ww.toNat : Int), .int .u64 (t.toNat : Int), .int .u64 (f : Int)] 83)
        have HOE := HOD (.cells #[.int .u64 (v.toNat : Int), .int .u64 (ww.toNat : Int), .int .u64 (t.toNat : Int), .int .u64 (f : Int)] 83)
        have E0 := D0 (.cells #[.int .u64 (v.toNat : Int), .int .u64 (ww.toNat : Int), .int .u64 (t.toNat : Int), .int .u64 (f : Int)] 83)
        have E1 := D1 (.cells #[.int .u64 (v.toNat : Int), .int .u64 (ww.toNat : Int), .int .u64 (t.toNat : Int), .int .u64 (f : Int)] 83)
        clear D0 D1 HKD HOD
        generalize (w4.alloc (.cells #[.int .u64 (v.toNat : Int), .int .u64 (ww.toNat : Int), .int .u64 (t.toNat : Int), .int .u64 (f : Int)] 83)).drew = w5 at *
        go_wp2_with fail
        refine (HPU.out _).mono ?_
        rintro _ w6 ⟨rfl, hk6⟩
        have HOF := Lib.hid (hk6.kp HOE.out (by simp))
        have HKF := Lib.hid (HKE.out.trans hk6)
        clear hk6 E0 E1
        go_wp2_with fail
        go_roundg (4 - (3 + 1))
        case measure => omega
        case rel => exact ⟨3 + 1, rfl, by go_num, by omega, rfl, HOF.out, HKF.out⟩
    · obtain rfl : k = 4 := by omega
      have HW : Hid (wP ⟨v, ww, t, f⟩ 4 = W4) := Lib.hid HW4.out
      rw [HW.out]
      go_wp2_with fail
      go_ret2
      exact ⟨rfl, hK⟩
end Go.Proofs.Ytehmjjfgefopdaa
