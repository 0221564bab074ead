import Derived.Test.YtfihnnijcaapkaaDoorVi
namespace Go.Proofs.YtfihnnijcaapkaaDoor
open Go.RowKit
set_option linter.unusedSimpArgs false
set_option linter.unusedVariables false
attribute [local go_sem] ob_alloc ob_drew ob_drewN ob_setCell ob_setBlock objSet_cells obMap_map obClock_map isMapI_map keyI_mk findI_nil findI_cons lookRes_some lookRes_none lookRes_some' lookRes_none' setBlock_alloc mapPut

set_option maxRecDepth 100000 in
set_option maxHeartbeats 800000 in
theorem rAll (w : World) (p : Nat) (S : Nat → Bool) (h : RSet w p S) :
    Calls Tryd.prog 16 #[.pointer (some ⟨p, 0, none⟩)] w fun e w' => ∃ va vc, e = .returned (.slice va (memL S 256).length vc) ∧ RowE numE 3 w' w.heap.size (.slice va (memL S 256).length vc) (memL S 256) ∧ Keep [] w w' := by
  have HS := Lib.hid h
  have hl := ob_lt h
  clear h
  go_enter Tryd.func16, Tryd.ntmps16
  go_wp2_with fail
  go_loopg [3, 4] 256 (fun gn s3 s4 wr => ∃ k : Nat, s4 = .int .i64 k ∧ k ≤ 256 ∧ gn = 256 - k ∧ RowE numE 3 wr w.heap.size s3 (memL S k) ∧ Keep [] w wr)
  case atStart => exact ⟨0, rfl, by omega, rfl, RowE.nil _ _, Keep.refl _ _⟩
  case round =>
    obtain ⟨k, rfl, hk, rfl, hrow, hkp⟩ := hrel
    by_cases hlt : k < 256
    · have hc := blk_cell (HS.out.keep hkp (by simp)) hlt
      obtain ⟨va, vc, rfl⟩ := hrow.slice
      have hml := memL_len S k
      have hsz := hkp.size
      cases hb : S k
      · rw [hb] at hc
        have hm : memL S (k + 1) = memL S k := by rw [memL_succ, hb]; simp
        have HH := Lib.hid (And.intro hrow (And.intro hkp hm))
        clear hrow hkp hm hb
        go_wp2_with fail
        go_roundg (256 - (k + 1))
        case measure => omega
        case rel => exact ⟨k + 1, by go_num, by omega, rfl, by rw [HH.out.2.2]; exact HH.out.1, HH.out.2.1⟩
      · rw [hb] at hc
        have hm : memL S (k + 1) = memL S k ++ [k] := by rw [memL_succ, hb]; simp
        have kA : Keep [] wr (wr.alloc (.cells #[.int .i64 (k : Int)] 3)) := (Keep.refl _ _).alloc _
        obtain ⟨va', vc', w', g1, g2, g3, g4⟩ := (hrow.keep kA (by simp)).push (P := Tryd.prog) Tryd.underlying23 info3 rfl (by omega) k (al_new wr (.cells #[.int .i64 (k : Int)] 3) rfl) 1 (by omega) (by omega) (by have := hkp.size; simp; omega)
        have k2 : Keep [] w w' := (hkp.trans kA).andThen g3 (fun x hx => by simp only [Option.mem_toList] at hx; exact .inr (ownBlock_ge hrow hx))
        have HH := Lib.hid (And.intro g2 (And.intro k2 hm))
        clear hrow hkp hm hb g2 g3 g4 kA k2
        generalize (memL S k).length = m at *
        go_wp2_with (at_builtin; refine wpList_append_eq rfl _ _ _ rfl rfl rfl (g1 _) ?_)
        go_roundg (256 - (k + 1))
        case measure => omega
        case rel => exact ⟨k + 1, by go_num, by omega, rfl, by rw [HH.out.2.2]; exact HH.out.1, HH.out.2.1⟩
    · obtain rfl : k = 256 := by omega
      obtain ⟨va, vc, rfl⟩ := hrow.slice
      have HH := Lib.hid (And.intro hrow hkp)
      clear hrow hkp
      go_wp2_with fail
      go_ret
      exact ⟨va, vc, rfl, HH.out.1, HH.out.2⟩
end Go.Proofs.YtfihnnijcaapkaaDoor
