import Derived.Test.YtajlpicdkdeceaaIb
import Derived.BigQuiet
import Derived.Deep.CutRange
namespace Go.Proofs.Ytajlpicdkdeceaa
open Go.RowKit
set_option linter.unusedSimpArgs false
set_option linter.unusedVariables false
attribute [local go_sem] ob_alloc ob_drew ob_drewN ob_setCell ob_setBlock objSet_cells obMap_map obClock_map isMapI_map keyI_mk findI_nil findI_cons lookRes_some lookRes_none lookRes_some' lookRes_none' setBlock_alloc mapPut

set_option maxRecDepth 100000 in
set_option maxHeartbeats 4000000 in
theorem pSame (w : World) (va vb : Value) (la lb : List PB) (ha : PRd w va la) (hb : PRd w vb lb) : Calls Try.prog 14 #[va, vb] w fun e w' => e = .returned (.bool (decide (la = lb))) ∧ Keep [] w w' := by
  have HA := Lib.hid ha
  have HB := Lib.hid hb
  obtain ⟨aa, capa, rfl, hc1, hc2⟩ := ha.len
  obtain ⟨ab, capb, rfl, hc3, hc4⟩ := hb.len
  unfold maxLen at hc2 hc4
  clear ha hb
  obtain ⟨n, hn⟩ : ∃ n, la.length = n := ⟨_, rfl⟩
  obtain ⟨n', hn'⟩ : ∃ n', lb.length = n' := ⟨_, rfl⟩
  rw [hn] at hc1 ⊢
  rw [hn'] at hc3 ⊢
  rw [hn] at HA
  rw [hn'] at HB
  by_cases hne : n = n'
  · subst hne
    go_enter Try.func14, Try.ntmps14
    go_wp2_with fail
    go_loopg [5] n (fun gn s5 wr => ∃ (k : Nat), s5 = .int .i64 k ∧ k ≤ n ∧ gn = n - k ∧ la.take k = lb.take k ∧ Keep [] w wr)
    case atStart => exact ⟨0, rfl, by omega, by omega, rfl, Keep.refl _ _⟩
    case round =>
      obtain ⟨k, rfl, hk, rfl, hal, hkp⟩ := hrel
      by_cases hlt : k < n
      · have hx : la[k]? = some (la[k]'(by omega)) := List.getElem?_eq_getElem _
        generalize (la[k]'(by omega)) = p at hx
        have hy : lb[k]? = some (lb[k]'(by omega)) := List.getElem?_eq_getElem _
        generalize (lb[k]'(by omega)) = q at hy
        obtain ⟨b, off, cap', sa, sc, hveq, _, _, hb, q0, q1, q2, hws, hs1, hs2⟩ := (HA.out.keep hkp).at hx
        simp only [Value.slice.injEq, hn, true_and] at hveq
        obtain ⟨rfl, rfl⟩ := hveq
        obtain ⟨b', off', cap', sa', sc', hveq, _, _, hb', q0', q1', q2', hws', hs1', hs2'⟩ := (HB.out.keep hkp).at hy
        simp only [Value.slice.injEq, hn', true_and] at hveq
        obtain ⟨rfl, rfl⟩ := hveq
        have hno : p ≠ q → decide (la = lb) = false := fun hpq => by
          simp only [decide_eq_false_iff_not]
          intro e
          rw [e, hy] at hx
          simp at hx
          exact hpq hx.symm
        have hyes : p = q → la.take (k + 1) = lb.take (k + 1) := fun e => by
          rw [List.take_add_one, List.take_add_one, hal, hx, hy, e]
        have HX := Lib.hid (And.intro hno (And.intro hyes (And.intro hws hws')))
        have HK := Lib.hid hkp
        unfold maxLen at hs2
        clear hno hyes hx hy hws hws' hal hkp
        obtain ⟨pg, pwr, ws⟩ := p
        obtain ⟨pg', pwr', ws'⟩ := q
        simp only at *
        obtain ⟨m, hm⟩ : ∃ m, ws.length = m := ⟨_, rfl⟩
        obtain ⟨m', hm'⟩ : ∃ m', ws'.length = m' := ⟨_, rfl⟩
        rw [hm] at q2 hs1 HX
        rw [hm'] at q2' hs1' HX
        by_cases c1 : pg = pg'
        · subst c1
          by_cases c2 : pwr = pwr'
          · subst c2
            by_cases c3 : m = m'
            · subst c3
              go_wp2_with fail
              go_quiet (fail)
              go_upto_region 9 with fail
              have hdr : ∃ t, wr.drewN nq = wr.drewN t := ⟨_, rfl⟩
              have hkk := HK.out.drewN nq
              generalize wr.drewN nq = wq at hdr hkk ⊢
              go_loopg [6] m (fun gn s6 wz => ∃ (j : Nat), s6 = .int .i64 j ∧ j ≤ m ∧ gn = m - j ∧ ws.take j = ws'.take j ∧ ∃ t, wz = wr.drewN t)
              case atStart => exact ⟨0, rfl, by omega, by omega, rfl, hdr⟩
              case round =>
                clear hdr hkk
                obtain ⟨j, rfl, hj, rfl, hal, t, rfl⟩ := hrel
                by_cases hjm : j < m
                · have hx : ws[j]? = some (ws[j]'(by omega)) := List.getElem?_eq_getElem _
                  generalize (ws[j]'(by omega)) = x at hx
                  have hy : ws'[j]? = some (ws'[j]'(by omega)) := List.getElem?_eq_getElem _
                  generalize (ws'[j]'(by omega)) = y at hy
                  obtain ⟨wb, wo, wcap, hveq, _, _, hX⟩ := HX.out.2.2.1.1.pos (by rw [List.length_map]; omega)
                  rw [List.length_map, hm] at hveq
                  simp only [Value.slice.injEq, true_and] at hveq
                  obtain ⟨rfl, rfl⟩ := hveq
                  obtain ⟨wb', wo', wcap', hveq, _, _, hX'⟩ := HX.out.2.2.2.1.pos (by rw [List.length_map]; omega)
                  rw [List.length_map, hm'] at hveq
                  simp only [Value.slice.injEq, true_and] at hveq
                  obtain ⟨rfl, rfl⟩ := hveq
                  have hxc := hX j _ (by rw [List.getElem?_map, hx]; rfl)
                  have hyc := hX' j _ (by rw [List.getElem?_map, hy]; rfl)
                  by_cases hxy : x = y
                  · have HAL := Lib.hid (show ws.take (j + 1) = ws'.take (j + 1) by rw [List.take_add_one, List.take_add_one, hal, hx, hy, hxy])
                    subst hxy
                    clear hx hy hX hX' hal
                    go_wp2_with fail
                    go_quiet (fail)
                    go_wp2_with fail
                    go_roundg (m - (j + 1))
                    case measure => omega
                    case rel => exact ⟨j + 1, by go_num, by omega, rfl, HAL.out, t + nq, rfl⟩
                  · have HD : Hid (decide (la = lb) = false) := Lib.hid (HX.out.1 (fun e => by
                      simp only [PB.mk.injEq] at e
                      rw [e.2.2] at hx
                      rw [hx] at hy
                      simp at hy
                      exact hxy hy))
                    have d1 : (x != y) = true := by simpa using hxy
                    clear hx hy hX hX' hal
                    go_wp2_with fail
                    go_quiet (fail)
                    go_wp2_with fail
                    go_ret
                    exact ⟨by rw [HD.out]; rfl, (HK.out.drewN _).drewN _⟩
                · obtain rfl : j = m := by omega
                  have HAL := Lib.hid (HX.out.2.1 (by
                    rw [List.take_of_length_le (by omega), List.take_of_length_le (by omega)] at hal
                    rw [hal]))
                  go_wp2_with fail
                  go_roundg (n - (k + 1))
                  case measure => omega
                  case rel => exact ⟨k + 1, by go_num, by omega, rfl, HAL.out, HK.out.drewN _⟩
            · have HD : Hid (decide (la = lb) = false) := Lib.hid (HX.out.1 (fun e => by
                simp only [PB.mk.injEq] at e
                rw [e.2.2] at hm
                omega))
              have c3' : (m : Int) ≠ m' := by omega
              have d1 : ((m : Int) != m') = true := by simpa using c3'
              go_wp2_with fail
              go_quiet (fail)
              go_wp2_with fail
              go_ret
              exact ⟨by rw [HD.out]; rfl, HK.out.drewN _⟩
          · have HD : Hid (decide (la = lb) = false) := Lib.hid (HX.out.1 (fun e => by
              simp only [PB.mk.injEq] at e
              exact c2 e.2.1))
            have d1 : (pwr != pwr') = true := by simpa using c2
            go_wp2_with fail
            go_quiet (fail)
            go_wp2_with fail
            go_ret
            exact ⟨by rw [HD.out]; rfl, HK.out.drewN _⟩
        · have HD : Hid (decide (la = lb) = false) := Lib.hid (HX.out.1 (fun e => by
            simp only [PB.mk.injEq] at e
            exact c1 e.1))
          have d1 : (pg != pg') = true := by simpa using c1
          go_wp2_with fail
          go_quiet (fail)
          go_wp2_with fail
          go_ret
          exact ⟨by rw [HD.out]; rfl, HK.out.drewN _⟩
      · obtain rfl : k = n := by omega
        have HF : Hid (decide (la = lb) = true) := Lib.hid (by
          rw [List.take_of_length_le (by omega), List.take_of_length_le (by omega)] at hal
          simpa using hal)
        have HK := Lib.hid hkp
        clear hal hkp
        go_wp2_with fail
        go_ret
        exact ⟨by rw [HF.out]; rfl, HK.out⟩
  · have HD : Hid (decide (la = lb) = false) := Lib.hid (by
      simp only [decide_eq_false_iff_not]
      intro e
      rw [e] at hn
      omega)
    have hne' : (n : Int) ≠ n' := by omega
    have d1 : ((n : Int) != n') = true := by simpa using hne'
    go_enter Try.func14, Try.ntmps14
    go_wp2_with fail
    go_ret
    exact ⟨by rw [HD.out]; rfl, Keep.refl _ _⟩
end Go.Proofs.Ytajlpicdkdeceaa
