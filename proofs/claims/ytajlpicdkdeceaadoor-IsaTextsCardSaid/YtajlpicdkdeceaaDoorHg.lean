import Derived.Test.YtajlpicdkdeceaaDoorHf
namespace Go.Proofs.YtajlpicdkdeceaaDoor
open Go.RowKit
set_option linter.unusedSimpArgs false
set_option linter.unusedVariables false
attribute [local go_sem] ob_alloc ob_drew ob_drewN ob_setCell ob_setBlock objSet_cells obMap_map obClock_map isMapI_map keyI_mk findI_nil findI_cons lookRes_some lookRes_none lookRes_some' lookRes_none' setBlock_alloc mapPut
open Go.Lib

set_option maxRecDepth 100000 in
set_option maxRecDepth 100000 in
set_option maxHeartbeats 800000 in
theorem rNames (o : Nat) (ho : o < 12) (w : World) : Calls Tryd.prog 24 #[.int .i64 (o : Int)] w fun e w' => e = .returned (.agg #[.bool (has o 1), .bool (has o 2), .bool (has o 3), .bool (has o 4)]) ∧ Keep [] w w' := by
  rcases (by omega : o = 0 ∨ o = 1 ∨ o = 2 ∨ o = 3 ∨ o = 4 ∨ o = 5 ∨ o = 6 ∨ o = 7 ∨ o = 8 ∨ o = 9 ∨ o = 10 ∨ o = 11) with rfl | rfl | rfl | rfl | rfl | rfl | rfl | rfl | rfl | rfl | rfl | rfl
  all_goals
    clear ho
    go_enter Tryd.func24, Tryd.ntmps24
    go_wp2_with fail
    refine bodyPost_ret (ret_row (P := Tryd.prog) Tryd.results24 (t := 49) (fr := (0, 0)) (g := w.heap.size) (al_new w _ rfl) rfl Tryd.underlying49 rfl (by kernel_rfl)) rfl ?_
    exact ⟨by rfl, (Keep.refl _ _).alloc _⟩
set_option maxRecDepth 100000 in
set_option maxHeartbeats 4000000 in
theorem rRight (w : World) (i : IN) (hw : i.wf) : Calls Tryd.prog 22 #[inV i] w fun e w' => e = .returned (.bool (right i)) ∧ Keep [] w w' := by
  obtain ⟨op, hop⟩ : ∃ x, i.op = x := ⟨_, rfl⟩
  obtain ⟨a, ha⟩ : ∃ x, i.a = x := ⟨_, rfl⟩
  obtain ⟨b, hb⟩ : ∃ x, i.b = x := ⟨_, rfl⟩
  obtain ⟨c, hc⟩ : ∃ x, i.c = x := ⟨_, rfl⟩
  obtain ⟨im, hm⟩ : ∃ x, i.im = x := ⟨_, rfl⟩
  have hV : inV i = .agg #[.int .i64 op, .int .i64 a, .int .i64 b, .int .i64 c, .int .i64 im] := by unfold inV; rw [hop, ha, hb, hc, hm]
  have hpf : (blk (vI fun q => i.f (q + 1)) 4) = #[.int .i64 a, .int .i64 b, .int .i64 c, .int .i64 im] := by
    rw [← ha, ← hb, ← hc, ← hm]; rfl
  have HPF := Lib.hid hpf
  rw [hV]
  have hkA : Keep [] w (w.alloc (.cells #[.int .i64 op, .int .i64 a, .int .i64 b, .int .i64 c, .int .i64 im] 23)) := (Keep.refl _ _).alloc _
  have HO := Lib.hid (And.intro hkA (al_new w (.cells #[.int .i64 op, .int .i64 a, .int .i64 b, .int .i64 c, .int .i64 im] 23) rfl))
  have HOP := Lib.hid (And.intro hop hw)
  clear hw hkA hop ha hb hc hm hV hpf
  by_cases c1 : op < 0
  · have HV : Hid (right i = false) := Lib.hid (by unfold right; rw [HOP.out.1, decide_eq_false (by omega)]; rfl)
    go_enter Tryd.func22, Tryd.ntmps22
    go_wp2_with fail
    go_ret
    exact ⟨by rw [HV.out]; rfl, HO.out.1⟩
  · by_cases c2 : 11 < op
    · have HV : Hid (right i = false) := Lib.hid (by unfold right; rw [HOP.out.1, decide_eq_false (by omega)]; rfl)
      go_enter Tryd.func22, Tryd.ntmps22
      go_wp2_with fail
      go_ret
      exact ⟨by rw [HV.out]; rfl, HO.out.1⟩
    · obtain ⟨o, rfl⟩ := Int.eq_ofNat_of_zero_le (a := op) (by omega)
      have ho : o < 12 := by omega
      have hg0 : good o i 0 = true := by
        unfold good
        refine decide_eq_true ⟨?_, ?_, fun h => absurd h (by omega)⟩
        · show 0 ≤ i.op; rw [HOP.out.1]; omega
        · show i.op < 2 ^ 8; rw [HOP.out.1]; omega
      have hri : right i = (List.range 5).all (good o i) := by
        unfold right
        rw [HOP.out.1, decide_eq_true (by omega), Bool.true_and]
        rfl
      have HG0 := Lib.hid (And.intro hg0 hri)
      clear hg0 hri
      go_enter Tryd.func22, Tryd.ntmps22
      go_upto_region 3 with fail
      obtain ⟨hk1, ho1⟩ := HO.out
      generalize w.alloc (.cells #[.int .i64 (o : Int), .int .i64 a, .int .i64 b, .int .i64 c, .int .i64 im] 23) = w1 at *
      generalize w.heap.size = bi at *
      obtain ⟨c0, c1', c2', c3, c4, lc⟩ := rd_in ho1
      have HK1 := Lib.hid hk1
      clear hk1 ho1
      go_wp2_with fail
      refine (rNames o ho w1).mono ?_
      rintro _ w2 ⟨rfl, hk2⟩
      have HO2 := Lib.hid (And.intro (HK1.out.trans hk2) (hk2.kp HO.out.2 (by simp)))
      have HN := Lib.hid (al_new w2 (.cells #[.bool (has o 1), .bool (has o 2), .bool (has o 3), .bool (has o 4)] 49) rfl)
      generalize hh1 : has o 1 = n1 at *
      generalize hh2 : has o 2 = n2 at *
      generalize hh3 : has o 3 = n3 at *
      generalize hh4 : has o 4 = n4 at *
      have HH := Lib.hid (And.intro hh1 (And.intro hh2 (And.intro hh3 hh4)))
      clear hk2 HK1 hh1 hh2 hh3 hh4 c0 c1' c2' c3 c4 lc HO
      go_upto_region 4 with fail
      have hA := (Keep.refl [] w2).alloc (.cells #[.bool n1, .bool n2, .bool n3, .bool n4] 49)
      have hn := HN.out
      have HO3 := Lib.hid (And.intro (HO2.out.1.trans hA) (And.intro (hA.kp HO2.out.2 (by simp)) hn))
      clear HN HO2 hn hA
      generalize w2.alloc (.cells #[.bool n1, .bool n2, .bool n3, .bool n4] 49) = w3 at *
      generalize w2.heap.size = nb at *
      obtain ⟨c0, c1', c2', c3, c4, lc⟩ := rd_in HO3.out.2.1
      have hB := (Keep.refl [] w3).alloc (.cells #[.int .i64 a, .int .i64 b, .int .i64 c, .int .i64 im] 51)
      have HO4 := Lib.hid (And.intro (HO3.out.1.trans hB) (And.intro (hB.kp HO3.out.2.2 (by simp)) (al_new w3 (.cells #[.int .i64 a, .int .i64 b, .int .i64 c, .int .i64 im] 51) rfl)))
      clear hB
      go_upto_region 5 with fail
      have h4 := HO4.out
      clear HO4 c0 c1' c2' c3 c4 lc HO3
      generalize w3.alloc (.cells #[.int .i64 a, .int .i64 b, .int .i64 c, .int .i64 im] 51) = w4 at *
      generalize w3.heap.size = pb at *
      obtain ⟨hk4, hn4, hp4⟩ := h4
      rw [← HPF.out] at hp4
      have HK4 := Lib.hid hk4
      have HNB := Lib.hid hn4
      have HPB := Lib.hid hp4
      clear hk4 hn4 hp4
      go_wp2_with fail
      go_loopg [5] 4 (fun gn s5 wr => ∃ k : Nat, s5 = .int .i64 k ∧ k ≤ 4 ∧ gn = 4 - k ∧ wr = w4 ∧ (List.range (k + 1)).all (good o i) = true)
      case atStart => exact ⟨0, rfl, by omega, rfl, rfl, all_succ _ _ rfl HG0.out.1⟩
      case round =>
        obtain ⟨k, rfl, hk, rfl, rfl, hall⟩ := hrel
        by_cases hlt : k < 4
        · have hk4 : (k : Int) < 4 := by omega
          obtain ⟨B, hB⟩ : ∃ B, has o (k + 1) = B := ⟨_, rfl⟩
          obtain ⟨n, hn⟩ : ∃ n, i.f (k + 1) = n := ⟨_, rfl⟩
          have hnw := HOP.out.2 (k + 1)
          rw [hn] at hnw
          have q0 : wr.cell? ⟨nb, k, none⟩ = some (.bool B) := by
            rw [cell_of_ob HNB.out, ← hB]
            obtain ⟨g1, g2, g3, g4⟩ := HH.out
            match k, hlt with
            | 0, _ => rw [g1]; rfl
            | 1, _ => rw [g2]; rfl
            | 2, _ => rw [g3]; rfl
            | 3, _ => rw [g4]; rfl
          have q1 : wr.cell? ⟨pb, k, none⟩ = some (.int .i64 n) := by
            rw [blk_cell HPB.out hlt]
            show some (Value.int .i64 (i.f (k + 1))) = _
            rw [hn]
          have l0 := ob_lt HNB.out
          have l1 := ob_lt HPB.out
          have hgd : good o i (k + 1) = decide (0 ≤ n ∧ n < 2 ^ lim (k + 1) ∧ (n ≠ 0 → B = true)) := by
            unfold good
            rw [hn, hB, decide_eq_decide]
            constructor
            · intro h; exact ⟨h.1, h.2.1, fun h2 => h.2.2 (by omega) h2⟩
            · intro h; exact ⟨h.1, h.2.1, fun _ h2 => h.2.2 h2⟩
          have HGD := Lib.hid hgd
          have HALL := Lib.hid hall
          clear hn hB hgd hall
          by_cases d1 : n < 0
          · have HV : Hid (right i = false) := Lib.hid (right_false (k := k + 1) (by omega) (by rw [HOP.out.1, Int.toNat_natCast, HGD.out]; exact decide_eq_false (by omega)))
            go_wp2_with fail
            go_ret
            exact ⟨by rw [HV.out]; rfl, HK4.out⟩
          · by_cases k3 : k < 3
            · have k3' : (k : Int) < 3 := by omega
              have hl8 : (2 : Int) ^ lim (k + 1) = 8 := by
                match k, k3 with
                | 0, _ | 1, _ | 2, _ => rfl
              by_cases d2 : 7 < n
              · have HV : Hid (right i = false) := Lib.hid (right_false (k := k + 1) (by omega) (by rw [HOP.out.1, Int.toNat_natCast, HGD.out, hl8]; exact decide_eq_false (by omega)))
                clear hl8
                go_wp2_with fail
                go_ret
                exact ⟨by rw [HV.out]; rfl, HK4.out⟩
              · have d3 : ¬ 65535 < n := by omega
                cases B with
                | true =>
                  have HG : Hid ((List.range (k + 1 + 1)).all (good o i) = true) := Lib.hid (all_succ _ _ HALL.out (by rw [HGD.out, hl8]; exact decide_eq_true ⟨by omega, by omega, fun _ => rfl⟩))
                  clear hl8
                  go_wp2_with fail
                  go_roundg (4 - (k + 1))
                  case measure => omega
                  case rel => exact ⟨k + 1, by go_num, by omega, rfl, rfl, HG.out⟩
                | false =>
                  by_cases d4 : n = 0
                  · have HG : Hid ((List.range (k + 1 + 1)).all (good o i) = true) := Lib.hid (all_succ _ _ HALL.out (by rw [HGD.out, hl8]; exact decide_eq_true ⟨by omega, by omega, fun h => absurd d4 h⟩))
                    subst d4
                    clear hl8 d1 d2 d3 hnw
                    go_wp2_with fail
                    go_roundg (4 - (k + 1))
                    case measure => omega
                    case rel => exact ⟨k + 1, by go_num, by omega, rfl, rfl, HG.out⟩
                  · have HV : Hid (right i = false) := Lib.hid (right_false (k := k + 1) (by omega) (by rw [HOP.out.1, Int.toNat_natCast, HGD.out]; exact decide_eq_false (fun h => by have := h.2.2 d4; cases this)))
                    clear hl8
                    go_wp2_with fail
                    go_ret
                    exact ⟨by rw [HV.out]; rfl, HK4.out⟩
            · have k3' : ¬ (k : Int) < 3 := by omega
              have hl8 : (2 : Int) ^ lim (k + 1) = 65536 := by
                obtain rfl : k = 3 := by omega
                rfl
              by_cases d3 : 65535 < n
              · have HV : Hid (right i = false) := Lib.hid (right_false (k := k + 1) (by omega) (by rw [HOP.out.1, Int.toNat_natCast, HGD.out, hl8]; exact decide_eq_false (by omega)))
                clear hl8
                go_wp2_with fail
                go_ret
                exact ⟨by rw [HV.out]; rfl, HK4.out⟩
              · cases B with
                | true =>
                  have HG : Hid ((List.range (k + 1 + 1)).all (good o i) = true) := Lib.hid (all_succ _ _ HALL.out (by rw [HGD.out, hl8]; exact decide_eq_true ⟨by omega, by omega, fun _ => rfl⟩))
                  clear hl8
                  go_wp2_with fail
                  go_roundg (4 - (k + 1))
                  case measure => omega
                  case rel => exact ⟨k + 1, by go_num, by omega, rfl, rfl, HG.out⟩
                | false =>
                  by_cases d4 : n = 0
                  · have HG : Hid ((List.range (k + 1 + 1)).all (good o i) = true) := Lib.hid (all_succ _ _ HALL.out (by rw [HGD.out, hl8]; exact decide_eq_true ⟨by omega, by omega, fun h => absurd d4 h⟩))
                    subst d4
                    clear hl8 d1 d3 hnw
                    go_wp2_with fail
                    go_roundg (4 - (k + 1))
                    case measure => omega
                    case rel => exact ⟨k + 1, by go_num, by omega, rfl, rfl, HG.out⟩
                  · have HV : Hid (right i = false) := Lib.hid (right_false (k := k + 1) (by omega) (by rw [HOP.out.1, Int.toNat_natCast, HGD.out]; exact decide_eq_false (fun h => by have := h.2.2 d4; cases this)))
                    clear hl8
                    go_wp2_with fail
                    go_ret
                    exact ⟨by rw [HV.out]; rfl, HK4.out⟩
        · obtain rfl : k = 4 := by omega
          have HV : Hid (right i = true) := Lib.hid (by rw [HG0.out.2]; exact hall)
          clear hall
          go_wp2_with fail
          go_ret
          exact ⟨by rw [HV.out]; rfl, HK4.out⟩
end Go.Proofs.YtajlpicdkdeceaaDoor
