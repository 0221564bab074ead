import Derived.Test.YtajlpicdkdeceaaId
import Derived.BigRegion
namespace Go.Proofs.Ytajlpicdkdeceaa
open Go.RowKit
set_option linter.unusedSimpArgs false
set_option linter.unusedVariables false
attribute [local go_sem] ob_alloc ob_drew ob_drewN ob_setCell ob_setBlock objSet_cells obMap_map obClock_map isMapI_map keyI_mk findI_nil findI_cons lookRes_some lookRes_none lookRes_some' lookRes_none' setBlock_alloc mapPut

set_option maxRecDepth 100000 in
set_option maxHeartbeats 2000000 in
theorem pLight (w : World) (v : Value) (l : List PB) (h : PRd w v l) : Calls Try.prog 8 #[v] w fun e w' => ∃ b, e = .returned (.bool b) ∧ (b = true → l.length ≤ 30) ∧ Keep [] w w' := by
  have HP := Lib.hid h
  obtain ⟨a, cap, rfl, hc1, hc2⟩ := h.len
  unfold maxLen at hc2
  clear h
  generalize hn : l.length = n at *
  go_enter Try.func8, Try.ntmps8
  go_wp2_with fail
  go_loopg [3] n (fun gn s3 wr => ∃ k : Nat, s3 = .int .i64 k ∧ k ≤ n ∧ k ≤ 40 ∧ gn = n - k ∧ wr = w)
  case atStart => exact ⟨0, rfl, by omega, by omega, by omega, rfl⟩
  case round =>
    obtain ⟨k, rfl, hk, hk2, rfl, rfl⟩ := hrel
    by_cases hgo : k < n ∧ k < 40
    · obtain ⟨hlt, hl2⟩ := hgo
      have hx : l[k]? = some (l[k]'(by omega)) := List.getElem?_eq_getElem _
      generalize (l[k]'(by omega)) = p at hx
      obtain ⟨b, off, cap', sa, sc, hveq, _, _, hb, q0, q1, q2, _, hs1, hs2⟩ := HP.out.at hx
      simp only [Value.slice.injEq, hn, true_and] at hveq
      obtain ⟨rfl, rfl⟩ := hveq
      clear hx HP q0 q1
      generalize p.ws.length = m at *
      by_cases c1 : m ≤ 40
      · go_wp2_with fail
        go_roundg (n - (k + 1))
        case measure => omega
        case rel => exact ⟨k + 1, by go_num, by omega, by omega, rfl, rfl⟩
      · have c1' : (40 : Int) < m := by omega
        go_wp2_with fail
        go_ret
        exact ⟨false, rfl, by simp, Keep.refl _ _⟩
    · rcases Nat.lt_or_ge k n with hlt | hlt
      all_goals
        try have hl2 : 40 ≤ k := by omega
        clear hgo
        go_wp2_with fail
        go_ret
        exact ⟨_, rfl, by simp; omega, Keep.refl _ _⟩
theorem pFlag (w : World) (b : Bool) : Calls Try.prog 17 #[.bool b] w fun e w' => e = .returned (.int .u8 (if b = true then 1 else 0)) ∧ w' = w := by
  cases b
  · go_enter Try.func17, Try.ntmps17
    go_wp2_with fail
    go_ret
    exact ⟨rfl, rfl⟩
  · go_enter Try.func17, Try.ntmps17
    go_wp2_with fail
    go_ret
    exact ⟨rfl, rfl⟩
end Go.Proofs.Ytajlpicdkdeceaa
