import Derived.Test.YtajlpicdkdeceaaDoorJb
import Derived.BigQuiet
namespace Go.Proofs.YtajlpicdkdeceaaDoor
open Go.RowKit
set_option linter.unusedSimpArgs false
set_option linter.unusedVariables false
attribute [local go_sem] ob_alloc ob_drew ob_drewN ob_setCell ob_setBlock objSet_cells obMap_map obClock_map isMapI_map keyI_mk findI_nil findI_cons lookRes_some lookRes_none lookRes_some' lookRes_none' setBlock_alloc mapPut

def IN.wf (i : IN) : Prop := ∀ k, -9223372036854775808 ≤ i.f k ∧ i.f k ≤ 9223372036854775807
theorem cell_old {w w' : World} (hk : Keep [] w w') {b i : Nat} (hb : b < w.heap.size) : w'.cell? ⟨b, i, none⟩ = w.cell? ⟨b, i, none⟩ := by
  rw [cell_ob, cell_ob, hk.block b hb (by simp)]
theorem fld40 (x y : ByteArray) (w : World) : (Instr.field 40 (.agg #[.string x, .string y]) 1).run Tryd.prog w = .ok (.string y) w := by
  simp [Instr.field, run_underlying Tryd.underlying40, asAgg, part, isAgg, run_underlying Tryd.underlying9]
theorem fld65 (x y : Int) (w : World) : (Instr.field 65 (.agg #[.int .i64 x, .int .i64 y]) 1).run Tryd.prog w = .ok (.int .i64 y) w := by
  simp [Instr.field, run_underlying Tryd.underlying65, asAgg, part, isAgg, run_underlying Tryd.underlying3]
theorem sl9 (k : Nat) (hk : k < 5) : (⟨#[95, 97, 98, 99, 105]⟩ : ByteArray).extract k (k + 1) = chB k := by
  match k, hk with
  | 0, _ | 1, _ | 2, _ | 3, _ | 4, _ => decide
theorem lim_at (k : Nat) (hk : k < 5) : fieldsN (k * 2 + 1) = ((lim k : Nat) : Int) := by
  match k, hk with
  | 0, _ | 1, _ | 2, _ | 3, _ | 4, _ => rfl
theorem lim_le (k : Nat) : lim k ≤ 16 := by
  unfold lim
  split <;> omega
theorem pHas (o k : Nat) (w : World) : Calls Tryd.prog 19 #[.string (nmB o), .string (chB k)] w fun e w' => e = .returned (.bool (has o k)) ∧ w' = w := by
  exact Tryd.strings_Contains_one (nmB o) (ch k) w
theorem right_false {i : IN} {k : Nat} (hk : k < 5) (h : good i.op.toNat i k = false) : right i = false := by
  unfold right
  rw [Bool.and_eq_false_iff]
  right
  rw [List.all_eq_false]
  exact ⟨k, List.mem_range.2 hk, by simp [h]⟩
theorem all_succ (p : Nat → Bool) (k : Nat) (h : (List.range k).all p = true) (hk : p k = true) : (List.range (k + 1)).all p = true := by
  rw [List.range_succ, List.all_append, h]
  simp [hk]
set_option maxRecDepth 100000 in
set_option maxHeartbeats 2000000 in
theorem pRight (w : World) (i : IN) (hw : i.wf) : Calls Tryd.prog 16 #[inV i] w fun e w' => e = .returned (.bool (right i)) ∧ Keep [] w w' := by
  have HW := Lib.hid hw
  obtain ⟨op, hop⟩ : ∃ x, i.op = x := ⟨_, rfl⟩
  obtain ⟨a, ha⟩ : ∃ x, i.a = x := ⟨_, rfl⟩
  obtain ⟨b, hb⟩ : ∃ x, i.b = x := ⟨_, rfl⟩
  obtain ⟨c, hc⟩ : ∃ x, i.c = x := ⟨_, rfl⟩
  obtain ⟨im, hm⟩ : ∃ x, i.im = x := ⟨_, rfl⟩
  have hV : inV i = .agg #[.int .i64 op, .int .i64 a, .int .i64 b, .int .i64 c, .int .i64 im] := by unfold inV; rw [hop, ha, hb, hc, hm]
  have HIV := Lib.hid hV
  rw [hV]
  have hkA : Keep [] w (w.alloc (.cells #[.int .i64 op, .int .i64 a, .int .i64 b, .int .i64 c, .int .i64 im] 23)) := (Keep.refl _ _).alloc _
  have HK := Lib.hid hkA
  have HO := Lib.hid (al_new w (.cells #[.int .i64 op, .int .i64 a, .int .i64 b, .int .i64 c, .int .i64 im] 23) rfl)
  have HOP := Lib.hid hop
  clear hw hkA hop ha hb hc hm hV
  by_cases c1 : op < 0
  · have HV : Hid (right i = false) := Lib.hid (by unfold right; rw [HOP.out, decide_eq_false (by omega)]; rfl)
    go_enter Tryd.func16, Tryd.ntmps16
    go_wp2_with fail
    go_ret
    exact ⟨by rw [HV.out]; rfl, HK.out⟩
  · by_cases c2 : 11 < op
    · have HV : Hid (right i = false) := Lib.hid (by unfold right; rw [HOP.out, decide_eq_false (by omega)]; rfl)
      go_enter Tryd.func16, Tryd.ntmps16
      go_wp2_with fail
      go_ret
      exact ⟨by rw [HV.out]; rfl, HK.out⟩
    · obtain ⟨o, rfl⟩ := Int.eq_ofNat_of_zero_le (a := op) (by omega)
      have ho : o < 12 := by omega
      have hi41 := idx41 o ho
      have hf40 := fld40 (wdB o) (nmB o)
      go_enter Tryd.func16, Tryd.ntmps16
      go_upto_region 3 with fail
      generalize w.alloc (.cells #[.int .i64 (o : Int), .int .i64 a, .int .i64 b, .int .i64 c, .int .i64 im] 23) = w1 at *
      generalize w.heap.size = bi at *
      have q0 := cell_of_ob HO.out 0
      have lb := ob_lt HO.out
      simp only [List.getElem?_toArray, List.getElem?_cons_zero] at q0
      have hq2 : ∀ w' w'', (w'.cell? ⟨bi, 0, none⟩ = some (.int .i64 (o : Int)) ∧ Keep [] w1 w') → Keep [] w' w'' → (w''.cell? ⟨bi, 0, none⟩ = some (.int .i64 (o : Int)) ∧ Keep [] w1 w'') := fun w' w'' h1 h2 => by
        have h3 := h1.2.trans h2
        exact ⟨(cell_old h3 lb).trans q0, h3⟩
      go_region_held3 (fun w' => w'.cell? ⟨bi, 0, none⟩ = some (.int .i64 (o : Int)) ∧ Keep [] w1 w') (first | exact ⟨q0, (Keep.refl _ _).drew⟩ | exact hq2 _ _ (by assumption) (by assumption) | go_keep)
        (first | (go_at_call 17; refine (pForms _).mono ?_; rintro _ w9 ⟨rfl, hk9⟩))
      have hkk : Keep [] w w9 := HK.out.trans (by
        have h := ‹_ ∧ Keep [] w1 _›
        exact h.2)
      have hk19 := ‹_ ∧ Keep [] w1 _›.2
      have r0 := cell_of_ob (hk19.kp HO.out (by simp)) 0
      have r1 := cell_of_ob (hk19.kp HO.out (by simp)) 1
      have r2 := cell_of_ob (hk19.kp HO.out (by simp)) 2
      have r3 := cell_of_ob (hk19.kp HO.out (by simp)) 3
      have r4 := cell_of_ob (hk19.kp HO.out (by simp)) 4
      simp only [List.getElem?_toArray, List.getElem?_cons_zero, List.getElem?_cons_succ] at r0 r1 r2 r3 r4
      have lb9 := Nat.lt_of_lt_of_le lb hk19.size
      have HK9 := Lib.hid hkk
      clear hi41 hf40 hq2 hk9 hkk hk19 q0 HK
      go_wp2_with fail
      rw [← HIV.out]
      refine (pSplit _ i).mono ?_
      rintro _ w10 ⟨rfl, hk10⟩
      rw [HIV.out]
      have HK10 := Lib.hid (HK9.out.trans hk10)
      clear hk10 HK9 r0 r1 r2 r3 r4
      go_wp2_with fail
      go_loopg [21] 5 (fun gn s21 wr => ∃ k : Nat, s21 = .int .i64 k ∧ k ≤ 5 ∧ gn = 5 - k ∧ (List.range k).all (good o i) = true ∧ Keep [] w wr)
      case atStart => exact ⟨0, rfl, by omega, rfl, rfl, HK10.out⟩
      case round =>
        clear HK10
        obtain ⟨k, rfl, hk, rfl, hall, hkr⟩ := hrel
        have HK := Lib.hid hkr
        have HA := Lib.hid hall
        clear hkr hall
        by_cases hlt : k < 5
        · have hk5 : (k : Int) < 5 := by omega
          have hi44 := idx44 i k hlt
          have hi66 := idx66 k hlt
          have hf65 := fld65 (fieldsN (k * 2)) (fieldsN (k * 2 + 1))
          have hnb := HW.out k
          obtain ⟨n, hn⟩ : ∃ n, i.f k = n := ⟨_, rfl⟩
          rw [hn] at hi44 hnb
          have HN := Lib.hid hn
          rw [lim_at k hlt] at hi66 hf65
          have hm16 := lim_le k
          obtain ⟨m, hm⟩ : ∃ m, lim k = m := ⟨_, rfl⟩
          rw [hm] at hi66 hf65 hm16
          have HM := Lib.hid hm
          generalize fieldsN (k * 2) = fr at *
          clear hn hm
          by_cases d1 : n < 0
          · have HV : Hid (right i = false) := Lib.hid (right_false hlt (by unfold good; rw [HN.out]; exact decide_eq_false (by omega)))
            go_wp2_with (first | (go_at_call 33; refine (pFields _).mono ?_; rintro _ w5 ⟨rfl, hk5⟩))
            go_ret
            exact ⟨by rw [HV.out]; rfl, HK.out⟩
          · by_cases d2 : n / 2 ^ m = 0
            · have hnm : n < 2 ^ m := by
                have hp : (0 : Int) < 2 ^ m := Int.pow_pos (by omega)
                have := Int.emod_add_mul_ediv n (2 ^ m)
                have := Int.emod_lt_of_pos n hp
                rw [d2] at *
                omega
              rcases Nat.eq_zero_or_pos k with h0 | h0
              · have HG : Hid ((List.range (k + 1)).all (good o i) = true) := Lib.hid (all_succ _ _ HA.out (by unfold good; rw [HN.out, HM.out]; exact decide_eq_true ⟨by omega, hnm, by omega⟩))
                subst h0
                rw [show ((0 : Nat) : Int) = 0 from rfl] at hi44 hi66
                clear hnm hk5
                go_wp2_with (first | (go_at_call 33; refine (pFields _).mono ?_; rintro _ w5 ⟨rfl, hk5⟩))
                go_roundg (5 - (0 + 1))
                case measure => omega
                case rel => exact ⟨0 + 1, by go_num, by omega, rfl, HG.out, HK.out.trans hk5⟩
              · have hk0 : (0 : Int) < k := by omega
                by_cases d3 : n = 0
                · have HG : Hid ((List.range (k + 1)).all (good o i) = true) := Lib.hid (all_succ _ _ HA.out (by unfold good; rw [HN.out, HM.out]; exact decide_eq_true ⟨by omega, hnm, by omega⟩))
                  clear hnm d2 hnb d1
                  subst d3
                  go_wp2_with (first | (go_at_call 33; refine (pFields _).mono ?_; rintro _ w5 ⟨rfl, hk5⟩))
                  go_roundg (5 - (k + 1))
                  case measure => omega
                  case rel => exact ⟨k + 1, by go_num, by omega, rfl, HG.out, HK.out.trans hk5⟩
                · have hsx := sl9 k hlt
                  cases hh : has o k with
                  | true =>
                    have HG : Hid ((List.range (k + 1)).all (good o i) = true) := Lib.hid (all_succ _ _ HA.out (by unfold good; rw [HN.out, HM.out]; exact decide_eq_true ⟨by omega, hnm, fun _ _ => hh⟩))
                    have HC := Lib.hid (fun w => hh ▸ pHas o k w)
                    clear hnm hh
                    go_wp2_with (first | (go_at_call 33; refine (pFields _).mono ?_; rintro _ w5 ⟨rfl, hk5⟩))
                    refine (HC.out _).mono ?_
                    rintro _ w6 ⟨rfl, hw6⟩
                    obtain rfl : w5 = w6 := hw6.symm
                    go_wp2_with fail
                    go_roundg (5 - (k + 1))
                    case measure => omega
                    case rel => exact ⟨k + 1, by go_num, by omega, rfl, HG.out, HK.out.trans hk5⟩
                  | false =>
                    have HV : Hid (right i = false) := Lib.hid (right_false hlt (by unfold good; rw [HOP.out, HN.out]; exact decide_eq_false (fun h => by have := h.2.2 h0 d3; simp only [Int.toNat_natCast] at this; rw [hh] at this; cases this)))
                    have HC := Lib.hid (fun w => hh ▸ pHas o k w)
                    clear hnm hh
                    go_wp2_with (first | (go_at_call 33; refine (pFields _).mono ?_; rintro _ w5 ⟨rfl, hk5⟩))
                    refine (HC.out _).mono ?_
                    rintro _ w6 ⟨rfl, hw6⟩
                    obtain rfl : w5 = w6 := hw6.symm
                    go_wp2_with fail
                    go_ret
                    exact ⟨by rw [HV.out]; rfl, HK.out.trans hk5⟩
            · have HV : Hid (right i = false) := Lib.hid (right_false hlt (by
                unfold good; rw [HN.out, HM.out]
                exact decide_eq_false (fun h => d2 (Int.ediv_eq_zero_of_lt h.1 h.2.1))))
              have d3 : (n / 2 ^ m != 0) = true := by simpa using d2
              go_wp2_with (first | (go_at_call 33; refine (pFields _).mono ?_; rintro _ w5 ⟨rfl, hk5⟩))
              go_ret
              exact ⟨by rw [HV.out]; rfl, HK.out.trans hk5⟩
        · obtain rfl : k = 5 := by omega
          have HV : Hid (right i = true) := Lib.hid (by unfold right; rw [HOP.out]; simp only [Int.toNat_natCast]; rw [HA.out, decide_eq_true (by omega)]; rfl)
          go_wp2_with fail
          go_ret
          exact ⟨by rw [HV.out]; rfl, HK.out⟩
end Go.Proofs.YtajlpicdkdeceaaDoor
