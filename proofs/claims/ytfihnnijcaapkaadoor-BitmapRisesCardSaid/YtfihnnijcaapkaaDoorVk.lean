import Derived.Test.YtfihnnijcaapkaaDoorVj
namespace Go.Proofs.YtfihnnijcaapkaaDoor
open Go.RowKit
set_option linter.unusedSimpArgs false
set_option linter.unusedVariables false
attribute [local go_sem] ob_alloc ob_drew ob_drewN ob_setCell ob_setBlock objSet_cells obMap_map obClock_map isMapI_map keyI_mk findI_nil findI_cons lookRes_some lookRes_none lookRes_some' lookRes_none' setBlock_alloc mapPut

set_option maxRecDepth 100000 in
set_option maxHeartbeats 2000000 in
theorem rGap (w : World) (p : Nat) (S : Nat → Bool) (h : RSet w p S) (many en : Int) :
    Calls Tryd.prog 15 #[.pointer (some ⟨p, 0, none⟩), .int .i64 many, .int .i64 en] w fun e w' => ∃ g, e = .returned (.int .i64 g) ∧ GapP S many en g ∧ w' = w := by
  have HS := Lib.hid h
  have hl := ob_lt h
  clear h
  by_cases g1 : many < 1
  · have HG := Lib.hid (show GapP S many en (-1) from .inl ⟨rfl, .inl g1⟩)
    go_enter Tryd.func15, Tryd.ntmps15
    go_wp2_with fail
    go_ret
    exact ⟨_, rfl, HG.out, rfl⟩
  · by_cases g2 : en < 0
    · have g1' : 1 ≤ many := by omega
      have HG := Lib.hid (show GapP S many en (-1) from .inl ⟨rfl, .inr (.inl g2)⟩)
      clear g1
      go_enter Tryd.func15, Tryd.ntmps15
      go_wp2_with fail
      go_ret
      exact ⟨_, rfl, HG.out, rfl⟩
    · by_cases g3 : 256 < en
      · have g1' : 1 ≤ many := by omega
        have g2' : 0 ≤ en := by omega
        have HG := Lib.hid (show GapP S many en (-1) from .inl ⟨rfl, .inr (.inr (.inl g3))⟩)
        clear g1 g2
        go_enter Tryd.func15, Tryd.ntmps15
        go_wp2_with fail
        go_ret
        exact ⟨_, rfl, HG.out, rfl⟩
      · have g1' : 1 ≤ many := by omega
        obtain ⟨m, rfl⟩ := Int.eq_ofNat_of_zero_le (show 0 ≤ en by omega)
        have hm : m ≤ 256 := by omega
        have d1 : decide (many < 1) = false := by simpa using g1'
        have d2 : decide ((m : Int) < 0) = false := by simp
        have d3 : decide (256 < (m : Int)) = false := by simp; omega
        clear g1 g2 g3
        go_enter Tryd.func15, Tryd.ntmps15
        go_wp2_with fail
        clear d1 d2 d3
        go_loopg [7] m (fun gn s7 wr => wr = w ∧ ∃ k : Nat, s7 = .int .i64 k ∧ k ≤ m ∧ gn = m - k ∧ ∀ j, j < k → ¬ Fr S many m j)
        case atStart => exact ⟨rfl, 0, rfl, by omega, by omega, fun j hj => by omega⟩
        case round =>
          obtain ⟨rfl, k, rfl, hk, rfl, hno⟩ := hrel
          have HN := Lib.hid hno
          clear hno
          by_cases hlt : k < m
          · by_cases hfit : many ≤ (m : Int) - (k : Int)
            · obtain ⟨c, rfl⟩ := Int.eq_ofNat_of_zero_le (show 0 ≤ many by omega)
              have dfit : decide ((c : Int) ≤ (m : Int) - (k : Int)) = true := by simpa using hfit
              go_wp2_with fail
              go_loopg [8, 9] c (fun gn s8 s9 w' => w' = wr ∧ ∃ (i : Nat) (b : Bool), s9 = .int .i64 i ∧ s8 = .bool b ∧ k ≤ i ∧ i ≤ k + c ∧ gn = k + c - i ∧ (b = true → ∀ j, k ≤ j → j < i → S j = false) ∧ (b = false → ∃ j, k ≤ j ∧ j < i ∧ S j = true))
              case atStart => exact ⟨rfl, k, true, rfl, rfl, by omega, by omega, by omega, fun _ j h1 h2 => by omega, fun h => by cases h⟩
              case round =>
                obtain ⟨rfl, i, b, rfl, rfl, hi1, hi2, rfl, hb1, hb2⟩ := hrel
                have HB := Lib.hid (And.intro hb1 hb2)
                clear hb1 hb2
                cases b
                · go_wp2_with fail
                  go_roundg (m - (k + 1))
                  case measure => omega
                  case rel =>
                    refine ⟨rfl, k + 1, by go_num, by omega, by omega, fun j hj hF => ?_⟩
                    rcases Nat.lt_or_ge j k with h | h
                    · exact HN.out j h hF
                    · obtain ⟨q, q1, q2, q3⟩ := HB.out.2 (by trivial)
                      have := hF.2 q (by omega) (by omega)
                      rw [q3] at this; cases this
                · by_cases hin : i < k + c
                  · have hc := blk_cell HS.out (show i < 256 by omega)
                    have hin' : (i : Int) < (k : Int) + (c : Int) := by omega
                    cases hb : S i
                    · rw [hb] at hc
                      have HB2 := Lib.hid hb
                      clear hb
                      go_wp2_with fail
                      go_roundg (k + c - (i + 1))
                      case measure => omega
                      case rel =>
                        refine ⟨rfl, i + 1, true, by go_num, rfl, by omega, by omega, rfl, fun _ j h1 h2 => ?_, fun h => by cases h⟩
                        rcases Nat.lt_or_ge j i with h | h
                        · exact HB.out.1 (by trivial) j h1 h
                        · obtain rfl : j = i := by omega
                          exact HB2.out
                    · rw [hb] at hc
                      have HB2 := Lib.hid hb
                      clear hb
                      go_wp2_with fail
                      go_roundg (k + c - (i + 1))
                      case measure => omega
                      case rel => exact ⟨rfl, i + 1, false, by go_num, rfl, by omega, by omega, rfl, fun h => (by cases h), fun _ => ⟨i, hi1, by omega, HB2.out⟩⟩
                  · have hin' : (k : Int) + (c : Int) ≤ i := by omega
                    have HG : GapP S c m k := .inr ⟨k, rfl, by omega, by omega, by omega, ⟨by omega, fun j h1 h2 => HB.out.1 rfl j h1 (by omega)⟩, HN.out⟩
                    have HG := Lib.hid HG
                    go_wp2_with fail
                    go_ret
                    exact ⟨_, rfl, HG.out, rfl⟩
            · have dfit : decide (many ≤ (m : Int) - (k : Int)) = false := by simp; omega
              go_wp2_with fail
              go_loopg [8, 9] 0 (fun gn s8 s9 w' => w' = wr ∧ s9 = .int .i64 k ∧ s8 = .bool false ∧ gn = 0)
              case atStart => exact ⟨rfl, rfl, rfl, rfl⟩
              case round =>
                obtain ⟨rfl, rfl, rfl, rfl⟩ := hrel
                go_wp2_with fail
                go_roundg (m - (k + 1))
                case measure => omega
                case rel =>
                  refine ⟨rfl, k + 1, by go_num, by omega, by omega, fun j hj hF => ?_⟩
                  rcases Nat.lt_or_ge j k with h | h
                  · exact HN.out j h hF
                  · have := hF.1; omega
          · obtain rfl : k = m := by omega
            have HG : GapP S many (k : Int) (-1) := .inl ⟨rfl, .inr (.inr (.inr (fun j hF => by
              rcases Nat.lt_or_ge j k with h | h
              · exact HN.out j h hF
              · have := hF.1; omega)))⟩
            have HG := Lib.hid HG
            go_wp2_with fail
            go_ret
            exact ⟨_, rfl, HG.out, rfl⟩
end Go.Proofs.YtfihnnijcaapkaaDoor
