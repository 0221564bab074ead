import Derived.Test.YtajlpicdkdeceaaId
import Derived.BigQuiet
import Derived.Deep.CutRange
namespace Go.Proofs.Ytajlpicdkdeceaa
open Go.RowKit
set_option linter.unusedSimpArgs false
set_option linter.unusedVariables false
attribute [local go_sem] ob_alloc ob_drew ob_drewN ob_setCell ob_setBlock objSet_cells obMap_map obClock_map isMapI_map keyI_mk findI_nil findI_cons lookRes_some lookRes_none lookRes_some' lookRes_none' setBlock_alloc mapPut

set_option maxRecDepth 100000 in
set_option maxHeartbeats 2000000 in
theorem rRight (w : World) (v : Value) (l : List PB) (h : PRd w v l) : Calls Try.prog 16 #[v] w fun e w' => e = .returned (.bool (right l)) ∧ Keep [] w w' := by
  have HP := Lib.hid h
  obtain ⟨a, cap, rfl, hc1, hc2⟩ := h.len
  unfold maxLen at hc2
  clear h
  generalize hn : l.length = n at *
  go_enter Try.func16, Try.ntmps16
  go_wp2_with fail
  go_loopg [3] n (fun gn s3 wr => ∃ (k : Nat) (last : Int), s3 = .int .i64 k ∧ k ≤ n ∧ gn = n - k ∧ -1 ≤ last ∧ (k = 0 → last = -1) ∧ (∀ p, 0 < k → l[k - 1]? = some p → last = p.pg) ∧ rightF (-1) l = rightF last (l.drop k) ∧ Keep [] w wr)
  case atStart => exact ⟨0, -1, rfl, by omega, by omega, by omega, fun _ => rfl, fun _ h => absurd h (by omega), rfl, Keep.refl _ _⟩
  case round =>
    obtain ⟨k, last, rfl, hk, rfl, hl1, hl0, hlp, hF, hkp⟩ := hrel
    by_cases hlt : k < n
    · have hx : l[k]? = some (l[k]'(by omega)) := List.getElem?_eq_getElem _
      generalize (l[k]'(by omega)) = p at hx
      rw [drop_at hx, rightF] at hF
      obtain ⟨b, off, cap', sa, sc, hveq, _, _, hb, q0, q1, q2, _, hs1, hs2⟩ := (HP.out.keep hkp).at hx
      simp only [Value.slice.injEq, hn, true_and] at hveq
      obtain ⟨rfl, rfl⟩ := hveq
      have hkA : Keep [] w (wr.alloc (.cells #[.int .i64 p.pg, .bool p.wr, .slice sa p.ws.length sc] 46)) := hkp.alloc _
      have HK := Lib.hid hkA
      have hR : ¬ (last < p.pg ∧ p.pg < 4096 ∧ 1 ≤ p.ws.length ∧ p.ws.length ≤ 16) → right l = false := fun h => by
        unfold right
        rw [hF, decide_eq_false h]; rfl
      have HR := Lib.hid hR
      have HF := Lib.hid hF
      have HX := Lib.hid hx
      have HL1 := Lib.hid hl1
      have hkn : (k : Int) < n := by omega
      obtain ⟨pg, wr9, ws⟩ := p
      simp only at *
      generalize hm : ws.length = m at *
      have HM := Lib.hid hm
      have hprev : ∀ j, k = j + 1 → ∃ pp : PB, last = pp.pg ∧ wr.cell? ⟨b, off + j * 3, none⟩ = some (.int .i64 pp.pg) := fun j hj => by
        have hy : l[j]? = some (l[j]'(by omega)) := List.getElem?_eq_getElem _
        generalize (l[j]'(by omega)) = pp at hy
        obtain ⟨b', off', cap2, sa', sc', hveq', _, _, _, z0, _⟩ := (HP.out.keep hkp).at hy
        simp only [Value.slice.injEq, Option.some.injEq, Addr.mk.injEq, and_true] at hveq'
        obtain ⟨⟨rfl, rfl⟩, _, rfl⟩ := hveq'
        refine ⟨pp, ?_, z0⟩
        have := hlp pp (by omega) (by rw [hj]; exact hy)
        exact this
      have HPV := Lib.hid hprev
      have HL0 := Lib.hid hl0
      clear hkA hkp hF hR hx hm hlp hprev hl0 hl1
      by_cases c1 : decide (pg < 0) = true
      · have HV := Lib.hid (HR.out (by have := HL1.out; have := of_decide_eq_true c1; omega))
        go_wp2_with fail
        go_quiet (fail)
        go_wp2_with fail
        go_ret
        exact ⟨by rw [HV.out]; rfl, HK.out.drewN _⟩
      · have c1' : decide (pg < 0) = false := by simpa using c1
        by_cases c2 : decide (4095 < pg) = true
        · have HV := Lib.hid (HR.out (by have := of_decide_eq_true c2; omega))
          clear c1
          go_wp2_with fail
          go_quiet (fail)
          go_wp2_with fail
          go_ret
          exact ⟨by rw [HV.out]; rfl, HK.out.drewN _⟩
        · have c2' : decide (4095 < pg) = false := by simpa using c2
          by_cases c3 : decide ((m : Int) < 1) = true
          · have HV := Lib.hid (HR.out (by have := of_decide_eq_true c3; omega))
            clear c1 c2
            go_wp2_with fail
            go_quiet (fail)
            go_wp2_with fail
            go_ret
            exact ⟨by rw [HV.out]; rfl, HK.out.drewN _⟩
          · have c3' : decide ((m : Int) < 1) = false := by simpa using c3
            by_cases c4 : decide ((16 : Int) < m) = true
            · have HV := Lib.hid (HR.out (by have := of_decide_eq_true c4; omega))
              clear c1 c2 c3
              go_wp2_with fail
              go_quiet (fail)
              go_wp2_with fail
              go_ret
              exact ⟨by rw [HV.out]; rfl, HK.out.drewN _⟩
            · have c4' : decide ((16 : Int) < m) = false := by simpa using c4
              have HO : Hid (0 ≤ pg ∧ pg < 4096 ∧ 1 ≤ m ∧ m ≤ 16) := Lib.hid (by simp at c1 c2 c3 c4; omega)
              clear c1 c2 c3 c4
              rcases Nat.eq_zero_or_pos k with h0 | h0
              · subst h0
                have hl := HL0.out rfl
                simp only [Nat.zero_mul, Nat.add_zero] at q0 q1 q2
                have HF2 : Hid (rightF (-1) l = rightF pg (l.drop (0 + 1))) := Lib.hid (by rw [HF.out, decide_eq_true (by have := HO.out; omega), Bool.true_and])
                have HO1 : Hid (-1 ≤ pg) := Lib.hid (by have := HO.out; omega)
                have HX2 : Hid (∀ p, l[0 + 1 - 1]? = some p → pg = p.pg) := Lib.hid (fun p hp => by have := HX.out; simp at hp this; rw [hp] at this; simp at this; rw [this])
                clear HF HR hl HPV HL0
                go_wp2_with fail
                go_quiet (fail)
                go_wp2_with fail
                go_roundg (n - (0 + 1))
                case measure => omega
                case rel => exact ⟨0 + 1, pg, by go_num, by omega, rfl, HO1.out, by omega, fun p _ hp => HX2.out p hp, HF2.out, HK.out.drewN _⟩
              · obtain ⟨j, rfl⟩ : ∃ j, k = j + 1 := ⟨k - 1, by omega⟩
                obtain ⟨pp, hlp, z0⟩ := HPV.out j rfl
                obtain ⟨ppg, hpp⟩ : ∃ x, pp.pg = x := ⟨_, rfl⟩
                rw [hpp] at z0 hlp
                have HX2 : Hid (∀ p, l[j + 1 + 1 - 1]? = some p → pg = p.pg) := Lib.hid (fun p hp => by have := HX.out; rw [show j + 1 + 1 - 1 = j + 1 by omega, this] at hp; simp at hp; rw [← hp])
                by_cases c5 : decide (pg ≤ ppg) = true
                · have HV := Lib.hid (HR.out (by have := of_decide_eq_true c5; omega))
                  clear hlp hpp HPV HF HR HX2
                  go_wp2_with fail
                  go_quiet (fail)
                  go_wp2_with fail
                  go_ret
                  exact ⟨by rw [HV.out]; rfl, HK.out.drewN _⟩
                · have c5' : decide (pg ≤ ppg) = false := by simpa using c5
                  have HF2 : Hid (rightF (-1) l = rightF pg (l.drop (j + 1 + 1))) := Lib.hid (by rw [HF.out, decide_eq_true (by have := HO.out; have := of_decide_eq_false c5'; omega), Bool.true_and])
                  have HO1 : Hid (-1 ≤ pg) := Lib.hid (by have := HO.out; omega)
                  clear hlp hpp HPV HF HR c5
                  go_wp2_with fail
                  go_quiet (fail)
                  go_wp2_with fail
                  go_roundg (n - (j + 1 + 1))
                  case measure => omega
                  case rel => exact ⟨j + 1 + 1, pg, by go_num, by omega, rfl, HO1.out, by omega, fun p _ hp => HX2.out p hp, HF2.out, HK.out.drewN _⟩
    · obtain rfl : k = n := by omega
      have hF2 : right l = (decide (1 ≤ k) && decide (k ≤ 16)) := by
        unfold right
        rw [hF, List.drop_eq_nil_of_le (by omega), rightF, Bool.true_and, hn]
        by_cases h1 : 1 ≤ k <;> by_cases h2 : k ≤ 16 <;> simp [h1, h2]
      have HK := Lib.hid hkp
      have HV := Lib.hid hF2
      clear hF hF2 hkp hlp hl0 hl1
      by_cases h1 : (1 : Int) ≤ k
      · go_wp2_with fail
        go_ret
        exact ⟨ret_b (by rw [HV.out]; have e1 : decide (1 ≤ k) = true := by { simp; omega }; rw [e1]; simp; try omega), HK.out⟩
      · have e1 : decide (1 ≤ k) = false := by simp; omega
        have h1' : (k : Int) < 1 := by omega
        have HE1 := Lib.hid e1
        clear e1
        go_wp2_with fail
        go_ret
        exact ⟨by rw [HV.out, HE1.out]; rfl, HK.out⟩
end Go.Proofs.Ytajlpicdkdeceaa
