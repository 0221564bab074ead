import Derived.Test.YtfihnnijcaapkaaDoorVm
namespace Go.Proofs.YtfihnnijcaapkaaDoor
open Go.RowKit
set_option linter.unusedSimpArgs false
set_option linter.unusedVariables false
attribute [local go_sem] ob_alloc ob_drew ob_drewN ob_setCell ob_setBlock objSet_cells obMap_map obClock_map isMapI_map keyI_mk findI_nil findI_cons lookRes_some lookRes_none lookRes_some' lookRes_none' setBlock_alloc mapPut
attribute [local go_sem ↓] Go.wp_at_zero Go.wp_at_succ

set_option maxRecDepth 100000 in
set_option maxHeartbeats 4000000 in
theorem gaps03 (W0 : World) (hT : TabAt W0) (hz : 0 < W0.heap.size) (v0 : Value) (xs : List (List Value)) (hv : RdA W0 2 v0 xs) (hx : ∀ c ∈ xs, GCells W0 [.int .i64, .bool] c) (many en : Int) :
    Calls Tryd.prog 5 #[v0, .int .i64 many, .int .i64 en] W0 fun o w' => o = .returned (.bool true) ∧ Keep [] W0 w' := by
  obtain ⟨a0, cap0, rfl, hc1, hc2⟩ := hv.len
  unfold maxLen at hc2
  generalize hn : xs.length = n at *
  have HA := Lib.hid (awake03 W0 W0 (Keep.refl _ _) hT hz)
  have HT := Lib.hid (And.intro hT hz)
  clear hT hz
  go_enter Tryd.func5, Tryd.ntmps5
  go_wp2_with fail
  refine HA.out.mono ?_
  rintro _ w1 ⟨rfl, hk1⟩
  have HS := Lib.hid (SE.begin hk1 HT.out.1 HT.out.2)
  clear hk1 HA HT
  go_wp2_with fail
  have hs := HS.out
  clear HS
  generalize w1.alloc (.cells #[.int .u64 0, .int .u64 0, .int .u64 0, .int .u64 0] 29) = w2 at *
  generalize w1.heap.size = p at *
  have HS := Lib.hid hs
  clear hs
  go_loopg [9] n (fun gn s7 wr => ∃ k : Nat, s7 = .int .i64 k ∧ k ≤ n ∧ k ≤ 300 ∧ gn = n - k ∧ SE W0 wr p (opsS (ops2 xs) k))
  case atStart => exact ⟨0, rfl, by omega, by omega, by omega, HS.out⟩
  case round =>
    obtain ⟨k, rfl, hk, hk2, rfl, hs⟩ := hrel
    by_cases hgo : k < n ∧ k < 300
    · obtain ⟨hlt, hl2⟩ := hgo
      obtain ⟨bb, off, cap', hveq, hbb, hXA⟩ := args2 hv hx (by omega)
      simp only [Value.slice.injEq, hn, true_and] at hveq
      obtain ⟨rfl, rfl⟩ := hveq
      rw [hn] at hXA
      obtain ⟨l0, l1⟩ := hXA wr hs.kp k (by omega)
      have HC : Hid (Calls Tryd.prog 8 #[.pointer (some ⟨p, 0, none⟩), .int .i64 (ops2 xs k).1, .bool (ops2 xs k).2] wr.drew fun e w' => e = .returned (.bool (inR (ops2 xs k).1)) ∧ SE W0 w' p (opsS (ops2 xs) (k + 1)) ∧ w'.cell? ⟨bb, off + k * 2, none⟩ = some (.int .i64 (ops2 xs k).1) ∧ w'.cell? ⟨bb, off + k * 2 + 1, none⟩ = some (.bool (ops2 xs k).2)) := Lib.hid (((hs.new (Keep.refl _ _).drew).put _ _).mono (fun e w' ⟨h1, h2, h3⟩ => ⟨h1, h2, hXA w' h2.kp k (by omega)⟩))
      generalize (ops2 xs k).1 = a at *
      generalize (ops2 xs k).2 = b at *
      have hkn : (k : Int) + 1 ≤ 301 := by omega
      clear hv hx hXA hs
      go_wp2_with fail
      go_region_held3 (fun w' => w'.cell? ⟨bb, off + k * 2, none⟩ = some (.int .i64 a) ∧ w'.cell? ⟨bb, off + k * 2 + 1, none⟩ = some (.bool b)) (first | exact ⟨l0, l1⟩ | exact ⟨m0, m1⟩ | go_keep)
        (first | (go_at_call 8; refine HC.out.mono ?_; rintro _ w5 ⟨rfl, hs, m0, m1⟩))
      all_goals
        have HS := Lib.hid hs
        clear hs HC l0 l1 m0 m1
        go_wp2_with fail
        go_roundg (n - (k + 1))
        case measure => omega
        case rel => exact ⟨k + 1, by go_num, by omega, by omega, rfl, HS.out⟩
    · clear hv hx HS
      have hs' := Lib.hid hs
      clear hs
      rcases Nat.lt_or_ge k n with hlt | hlt
      all_goals
        try have hl2 : 300 ≤ k := by omega
        go_upto_region 7 with fail
        have hs := hs'.out
        clear hs' hgo
        generalize opsS (ops2 xs) k = S at *
        have HS := Lib.hid hs
        clear hs
        go_wp2_with fail
        refine (HS.out.gap many en).mono ?_
        rintro _ w3 ⟨g, rfl, hg, hs, _⟩
        clear HS
        have HS := Lib.hid hs
        clear hs
        rcases hg with ⟨rfl, hg⟩ | ⟨m, rfl, h1, h2, h3, h4, h5⟩
        · have HG := Lib.hid hg
          clear hg
          by_cases e1 : many < 1
          · have d1 : decide (1 ≤ many) = false := by simp; omega
            have HK := Lib.hid HS.out.kp
            clear HS HG
            go_wp2_with fail
            go_ret
            exact ⟨rfl, HK.out⟩
          · have e1' : 1 ≤ many := by omega
            by_cases e2 : en < many
            · have d2 : decide (many ≤ en) = false := by simp; omega
              have HK := Lib.hid HS.out.kp
              clear HS HG e1
              go_wp2_with fail
              go_ret
              exact ⟨rfl, HK.out⟩
            · have e2' : many ≤ en := by omega
              by_cases e3 : 256 < en
              · have d3 : decide (en ≤ 256) = false := by simp; omega
                have HK := Lib.hid HS.out.kp
                clear HS HG e1 e2
                go_wp2_with fail
                go_ret
                exact ⟨rfl, HK.out⟩
              · have e3' : en ≤ 256 := by omega
                have hno : ∀ n, ¬ Fr S many en n := by
                  rcases HG.out with h | h | h | h
                  · omega
                  · omega
                  · omega
                  · exact h
                have hlen : (memL S 256).length ≠ 0 := fun h0 => by
                  have hnil := List.eq_nil_of_length_eq_zero h0
                  refine hno 0 ⟨by omega, fun i _ hi => ?_⟩
                  cases hSi : S i with
                  | false => rfl
                  | true =>
                    have : i ∈ memL S 256 := (memL_mem S).2 ⟨by omega, hSi⟩
                    rw [hnil] at this; cases this
                have hql := memL_len S 256
                have hcall := HS.out.len
                have HK := Lib.hid HS.out.kp
                generalize (memL S 256).length = q at *
                have hq0 : ((q : Nat) : Int) ≠ 0 := by omega
                clear HS HG e1 e2 e3 hno hlen
                go_wp2_with fail
                refine hcall.mono ?_
                rintro _ _ ⟨rfl, rfl⟩
                clear hcall
                go_wp2_with fail
                go_ret
                exact ⟨rfl, HK.out⟩
        · obtain ⟨c, rfl⟩ := Int.eq_ofNat_of_zero_le (show 0 ≤ many by omega)
          obtain ⟨d, rfl⟩ := Int.eq_ofNat_of_zero_le h2
          have hd : d ≤ 256 := by omega
          have hmc : m + c ≤ d := by have := h4.1; omega
          have hc0 : 1 ≤ c := by omega
          have HF := Lib.hid (And.intro h4.2 h5)
          have f1 : ((c : Nat) : Int) ≤ 256 := by omega
          have f2 : ((m : Nat) : Int) + ((c : Nat) : Int) ≤ (d : Int) := by omega
          have f3 : ((d : Nat) : Int) ≤ 256 := by omega
          have f4 : (1 : Int) ≤ ((c : Nat) : Int) := by omega
          clear h1 h2 h3 h4 h5
          go_wp2_with fail
          go_loopg [11] c (fun gn s11 wr => wr = w3 ∧ ∃ j : Nat, s11 = .int .i64 j ∧ m ≤ j ∧ j ≤ m + c ∧ gn = m + c - j)
          case atStart => exact ⟨rfl, m, rfl, by omega, by omega, by omega⟩
          case round =>
            obtain ⟨rfl, j, rfl, hj1, hj2, rfl⟩ := hrel
            by_cases hjl : j < m + c
            · have hSj : hasS S (j : Int) = false := by
                unfold hasS
                rw [Int.toNat_natCast, HF.out.1 j hj1 (by omega), Bool.and_false]
              have hjl' : (j : Int) < (m : Int) + (c : Int) := by omega
              have hcall := HS.out.has (j : Int)
              rw [hSj] at hcall
              clear hSj
              go_wp2_with fail
              refine hcall.mono ?_
              rintro _ _ ⟨rfl, rfl⟩
              clear hcall
              go_wp2_with fail
              go_roundg (m + c - (j + 1))
              case measure => omega
              case rel => exact ⟨rfl, j + 1, by go_num, by omega, by omega, rfl⟩
            · obtain rfl : j = m + c := by omega
              go_upto_region 19 with fail
              go_wp2_with fail
              go_loopg [12] m (fun gn s12 wr' => wr' = wr ∧ ∃ j : Nat, s12 = .int .i64 j ∧ j ≤ m ∧ gn = m - j)
              case atStart => exact ⟨rfl, 0, rfl, by omega, by omega⟩
              case round =>
                obtain ⟨rfl, j, rfl, hj, rfl⟩ := hrel
                by_cases hjm : j < m
                · obtain ⟨q, hq1, hq2, hq3⟩ : ∃ q, j ≤ q ∧ q < j + c ∧ S q = true := by
                    apply Classical.byContradiction
                    intro hno
                    refine HF.out.2 j hjm ⟨by omega, fun i h1 h2 => ?_⟩
                    cases hSi : S i with
                    | false => rfl
                    | true => exact absurd ⟨i, h1, by omega, hSi⟩ hno
                  have HQ := Lib.hid hq3
                  clear hq3
                  have hjm' : (j : Int) < (m : Int) := by omega
                  go_wp2_with fail
                  go_loopg [13, 14] c (fun gn s13 s14 wi => wi = wr ∧ ∃ (i : Nat) (b : Bool), s13 = .bool b ∧ s14 = .int .i64 i ∧ j ≤ i ∧ i ≤ j + c ∧ gn = j + c - i ∧ (q < i → b = true))
                  case atStart => exact ⟨rfl, j, false, rfl, rfl, by omega, by omega, by omega, fun h => by omega⟩
                  case round =>
                    obtain ⟨rfl, i, b, rfl, rfl, hi1, hi2, rfl, hb⟩ := hrel
                    have HB := Lib.hid hb
                    clear hb
                    by_cases hil : i < j + c
                    · have hSi : hasS S (i : Int) = S i := by
                        unfold hasS
                        rw [Int.toNat_natCast, show inR (i : Int) = true by unfold inR; simp; omega, Bool.true_and]
                      have hil' : (i : Int) < (j : Int) + (c : Int) := by omega
                      have hcall := HS.out.has (i : Int)
                      rw [hSi] at hcall
                      have hSq : q = i → S i = true := fun e => e ▸ HQ.out
                      have HSQ := Lib.hid hSq
                      clear hSi hSq
                      generalize S i = sv at *
                      go_wp2_with fail
                      refine hcall.mono ?_
                      rintro _ _ ⟨rfl, rfl⟩
                      clear hcall
                      cases b
                      · go_wp2_with fail
                        go_roundg (j + c - (i + 1))
                        case measure => omega
                        case rel => exact ⟨rfl, i + 1, sv, rfl, by go_num, by omega, by omega, rfl, fun h => by
                          rcases Nat.lt_or_ge q i with h1 | h1
                          · have := HB.out h1; simp at this
                          · exact HSQ.out (by omega)⟩
                      · go_wp2_with fail
                        go_roundg (j + c - (i + 1))
                        case measure => omega
                        case rel => exact ⟨rfl, i + 1, true, rfl, by go_num, by omega, by omega, rfl, fun _ => rfl⟩
                    · obtain rfl : i = j + c := by omega
                      obtain rfl : b = true := HB.out hq2
                      clear HB
                      go_wp2_with fail
                      go_roundg (m - (j + 1))
                      case measure => omega
                      case rel => exact ⟨rfl, j + 1, by go_num, by omega, rfl⟩
                · obtain rfl : j = m := by omega
                  have HK := Lib.hid HS.out.kp
                  clear HS
                  go_wp2_with fail
                  go_ret
                  exact ⟨rfl, HK.out⟩
end Go.Proofs.YtfihnnijcaapkaaDoor
