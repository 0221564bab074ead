import Derived.Test.YtjiienoflgolpaaQg
import Derived.Test.YtjiienoflgolpaaLibO
import Derived.Deep.RegionHeld3
import Derived.Deep.CutBlock
import Derived.Deep.QuietTactic
import Derived.BigQuiet
import Derived.Deep.DrawnRows
namespace Go.Proofs.Ytjiienoflgolpaa
open Go.RowKit
set_option linter.unusedSimpArgs false
set_option linter.unusedVariables false
open Go.Conc
attribute [local go_sem] ob_alloc ob_drew ob_drewN ob_setCell ob_setBlock objSet_cells obMap_map obClock_map isMapI_map keyI_mk findI_nil findI_cons lookRes_some lookRes_none lookRes_some' lookRes_none' setBlock_alloc mapPut
attribute [local go_sem ↓] Go.wp_at_zero Go.wp_at_succ

theorem QP.start {W0 w : World} {p c m : Nat} {n : Int} (h : PO W0 w p c m n []) (hm : m ≤ 16) {w' : World} (hr : RPort w' w.heap.size m n w.heap.size []) (hk : Keep [] w w') : QP W0 w' p c w.heap.size m n w.heap.size [] [] [] := by
  have h1 := h.pb.lt
  exact ⟨⟨[], [], h.new hk, hr, rfl, rfl, by simp, by simp⟩, by simp, by omega, by omega, by omega, hr.lt, h.kp.size, hm, by simp⟩
set_option maxRecDepth 100000 in
set_option maxHeartbeats 8000000 in
theorem plays18 (W0 : World) (many words : Int) (v0 : Value) (xs : List (List Value)) (hv : RdA W0 2 v0 xs) (hx : ∀ c ∈ xs, GCells W0 [.int .i64, .ints .u64] c) :
    Calls Try.prog 3 #[.int .i64 many, .int .i64 words, v0] W0 fun o w' => o = .returned (.bool true) ∧ Keep [] W0 w' := by
  obtain ⟨a0, cap0, rfl, hc1, hc2⟩ := hv.len
  unfold maxLen at hc2
  by_cases hok : 1 ≤ many ∧ many ≤ 16 ∧ 1 ≤ words ∧ words ≤ 16
  · obtain ⟨h1, h2, h3, h4⟩ := hok
    obtain ⟨m, rfl⟩ := Int.eq_ofNat_of_zero_le (show 0 ≤ many by omega)
    go_enter Try.func3, Try.ntmps3
    go_wp2_with fail
    refine (awake18 W0).mono ?_
    rintro _ w1 ⟨rfl, hk1⟩
    go_wp2_with fail
    refine (qNewPO W0 w1 hk1 m words (by omega) (by omega) (by omega) (by omega)).mono ?_
    rintro _ w2 ⟨p, c, rfl, hP2⟩
    have HP2 := Lib.hid hP2
    clear hk1 hP2
    go_wp2_with fail
    refine (rNew_yes w2 m words (by omega) (by omega) (by omega) (by omega)).mono ?_
    rintro _ w3 ⟨rfl, hR3, hk3⟩
    have hA0 := QP.start HP2.out (by omega) hR3 hk3
    generalize w2.heap.size = r at *
    have HA0 := Lib.hid hA0
    clear HP2 hR3 hk3 hA0
    go_wp2_with fail
    go_loopg [12] 120 (fun gn i wr => ∃ (k : Nat) (M : List (List Int)), i = .int .i64 k ∧ k ≤ 120 ∧ gn = 120 - k ∧ k ≤ xs.length ∧ QP W0 wr p c r m words r [] M M)
    case atStart => exact ⟨0, [], rfl, by omega, by omega, by omega, HA0.out⟩
    case round =>
      clear HA0
      obtain ⟨k, M, rfl, hk120, rfl, hkn, hA⟩ := hrel
      by_cases hlt : k < xs.length
      · by_cases h120 : k < 120
        · obtain ⟨bb, off, cap', hveq, hbl, hcells⟩ := (hv.keep hA.kp (by simp)).2 (by omega)
          simp only [Value.slice.injEq, true_and] at hveq
          obtain ⟨rfl, rfl⟩ := hveq
          have hxk : xs[k]? = some xs[k] := List.getElem?_eq_getElem hlt
          obtain ⟨hc3, hrange⟩ := hcells k _ hxk
          obtain ⟨_, _, hxe, ⟨d, rfl, _⟩, wv, _, rfl, ⟨ws, hws, _⟩, rfl⟩ := hx _ (List.getElem_mem hlt)
          rw [hxe] at hrange
          obtain ⟨wa, wp, rfl, hwl1, hwl2⟩ := hws.len
          obtain ⟨L, hL⟩ : ∃ L, ws.length = L := ⟨_, rfl⟩
          have HR : Hid (∀ w, Keep [] W0 w → RdU w (.slice wa L wp) ws) := Lib.hid (fun w hk => by
            have := Rd.keep hws hk (by simp)
            rw [List.length_map, hL] at this
            exact this)
          rw [List.length_map, hL] at hrange hwl1
          have l0 := hrange 0 _ rfl
          have l1 := hrange 1 _ rfl
          rw [Nat.add_zero] at l0
          have HL := Lib.hid hL
          clear hv hx hcells hxk hrange hc3 hxe hws hL
          generalize xs.length = l at *
          have hB := hA.alloc #[.int .i64 d, .slice wa L wp] 33
          have HB := Lib.hid hB
          have hkE := Lib.hid hA.kp
          unfold maxLen at hwl2
          clear hA hB
          by_cases hL100 : L ≤ 100
          · go_upto_block 2 with fail
            have hB := HB.out
            generalize wr.heap.size = bo at *
            generalize wr.alloc (.cells #[.int .i64 d, .slice wa L wp] 33) = w4 at *
            clear HB
            have e0 := cell_of_ob (hB.obk (.head _)) 0
            have e1 := cell_of_ob (hB.obk (.head _)) 1
            simp only [List.getElem?_toArray, List.getElem?_cons_zero, List.getElem?_cons_succ] at e0 e1
            go_cut [14] from 43 to 123 (fun s14 wx => s14 = .bool true ∧ ∃ M, QP W0 wx p c r m words r [(bo, .cells #[.int .i64 d, .slice wa L wp] 33 (0, 0))] M M)
            case first =>
              clear l0 l1
              have hD := hB.drew
              have hcut : d = 0 ∨ d = 1 ∨ d = 2 ∨ (d ≠ 0 ∧ d ≠ 1 ∧ d ≠ 2) := by omega
              rcases hcut with rfl | rfl | rfl | ⟨d0, d1, d2⟩
              focus
                clear hB e0
                go_wp2_with fail
                go_region_held3 (fun w' => w'.cell? ⟨bo, 1, none⟩ = some (.slice wa L wp)) (go_keep)
                  (first
                    | (go_at_call 16; refine (QP.send (by assumption) (HR.out _ (QP.kp (by assumption))) HL.out (by omega)).mono ?_; rintro _ w5 ⟨rfl, hD, -⟩; have e1 := cell_of_ob (hD.obk (.head _)) 1; simp only [List.getElem?_toArray, List.getElem?_cons_zero, List.getElem?_cons_succ] at e1)
                    | (go_at_call 17; refine (QP.rsend (by assumption) (HR.out _ (QP.kp (by assumption))) HL.out (by omega)).mono ?_; rintro _ w5 ⟨rfl, hD, -⟩; have e1 := cell_of_ob (hD.obk (.head _)) 1; simp only [List.getElem?_toArray, List.getElem?_cons_zero, List.getElem?_cons_succ] at e1))
                all_goals
                  go_wp2_with fail
                  go_meet
                  exact ⟨by simp, _, hD⟩
              focus
                clear hB e0
                go_wp2_with fail
                go_region_held3 (fun w' => w'.cell? ⟨bo, 1, none⟩ = some (.slice wa L wp)) (go_keep)
                  (first
                    | (go_at_call 16; refine (QP.send (by assumption) (HR.out _ (QP.kp (by assumption))) HL.out (by omega)).mono ?_; rintro _ w5 ⟨rfl, hD, -⟩; have e1 := cell_of_ob (hD.obk (.head _)) 1; simp only [List.getElem?_toArray, List.getElem?_cons_zero, List.getElem?_cons_succ] at e1)
                    | (go_at_call 17; refine (QP.rsend (by assumption) (HR.out _ (QP.kp (by assumption))) HL.out (by omega)).mono ?_; rintro _ w5 ⟨rfl, hD, -⟩; have e1 := cell_of_ob (hD.obk (.head _)) 1; simp only [List.getElem?_toArray, List.getElem?_cons_zero, List.getElem?_cons_succ] at e1))
                all_goals
                  go_wp2_with fail
                  go_meet
                  exact ⟨by simp, _, hD⟩
              focus
                clear hD
                cases M with
                | nil =>
                  have HB := Lib.hid hB
                  clear hB
                  go_wp2_with fail
                  refine HB.out.take_no.mono ?_
                  rintro _ w5 ⟨rfl, rfl⟩
                  go_wp2_with fail
                  refine HB.out.rtake_no.mono ?_
                  rintro _ w5 ⟨rfl, rfl⟩
                  go_wp2_with fail
                  refine (same_any w4 _ _ [] [] (.inl ⟨rfl, rfl⟩) (.inl ⟨rfl, rfl⟩)).mono ?_
                  rintro _ w6 ⟨rfl, hk6⟩
                  rw [decide_eq_true (rfl : ([] : List Int) = [])]
                  have H6 := Lib.hid (HB.out.new hk6)
                  clear HB hk6
                  go_wp2_with fail
                  go_meet
                  exact ⟨by simp, _, H6.out⟩
                | cons x T =>
                  have HB := Lib.hid hB
                  clear hB
                  go_wp2_with fail
                  refine HB.out.take_yes.mono ?_
                  rintro _ w5 ⟨v, rfl, ho5, hB5, hk5⟩
                  have H5 := Lib.hid (And.intro ho5 hB5)
                  clear ho5 hB5 hk5 HB
                  go_wp2_with fail
                  refine H5.out.2.rtake_yes.mono ?_
                  rintro _ w6 ⟨u, rfl, ho6, hB6, hk6⟩
                  have hov := H5.out.1.keep hk6 (by intro y hy; simp at hy; subst hy; exact Nat.le_refl _)
                  have H6 := Lib.hid (And.intro ho6 (And.intro hov hB6))
                  clear ho6 hov hB6 hk6 H5
                  go_wp2_with fail
                  refine (same_any w6 _ _ x x H6.out.2.1.rd H6.out.1.rd).mono ?_
                  rintro _ w7 ⟨rfl, hk7⟩
                  rw [decide_eq_true (rfl : x = x)]
                  have H7 := Lib.hid (H6.out.2.2.new hk7)
                  clear H6 hk7
                  go_wp2_with fail
                  go_meet
                  exact ⟨by simp, _, H7.out⟩
              focus
                have d0' : (d == 0) = false := by simpa using d0
                have d1' : (d == 1) = false := by simpa using d1
                have d2' : (d == 2) = false := by simpa using d2
                obtain ⟨va, vc, ho⟩ := hB.cell
                have r2 := cell_of_ob ho 2
                simp only [List.getElem?_toArray, List.getElem?_cons_zero, List.getElem?_cons_succ] at r2
                have HO := Lib.hid ho
                have hcr := hB.cr
                have HCR := Lib.hid hcr
                clear hcr d0 d1 d2 hB ho e0 e1
                go_wp2_with fail
                go_region_held3 (fun w' => w'.cell? ⟨r, 2, none⟩ = some (.slice va M.length vc)) (go_keep)
                  (first
                    | (go_at_call 21; refine (QP.drain (by assumption)).mono ?_; rintro _ w5 ⟨rfl, hD, hk5⟩; have ho5 := Keep.kp hk5 (show ob w4.drew r = _ from HO.out) (by simp; exact HCR.out.symm); have r2 := cell_of_ob ho5 2; have f2 := free_of_ob ho5 2; simp only [List.getElem?_toArray, List.getElem?_cons_zero, List.getElem?_cons_succ] at r2; clear ho5 hk5))
                all_goals
                  have HD := Lib.hid hD.rclear
                  clear hD
                  go_wp2_with fail
                  go_meet
                  exact ⟨by simp, _, HD.out⟩
            case rest =>
              clear hB l0 l1 e0 e1
              obtain ⟨rfl, M', hB⟩ := hcut
              obtain ⟨va, vc, ho⟩ := hB.cell
              have r2 := cell_of_ob ho 2
              simp only [List.getElem?_toArray, List.getElem?_cons_zero, List.getElem?_cons_succ] at r2
              have HB := Lib.hid hB
              have HQ := Lib.hid (fun nq => (hB.new ((Keep.refl [] wc).drewN nq)).len)
              generalize M'.length = ml at *
              clear hB ho
              go_wp2_with fail
              go_quiet ((go_at_call 22; exact Calls.quiet_of_same (HQ.out _)))
              clear r2
              go_wp2
              go_roundg (120 - (k + 1))
              case measure => omega
              case rel => exact ⟨k + 1, M', by go_num, by omega, rfl, by omega, (HB.out.new ((Keep.refl [] _).drewN _)).dropk (by simp)⟩
          · have hL2 : 101 ≤ L := by omega
            clear hL100 HB HR
            go_wp2
            go_ret
            exact ⟨rfl, hkE.out.alloc _⟩
        · generalize xs.length = l at *
          have hkE := hA.kp
          clear hv hx hA
          go_wp2
          go_ret
          exact ⟨rfl, hkE⟩
      · generalize xs.length = l at *
        have hkE := hA.kp
        clear hv hx hA
        go_wp2
        go_ret
        exact ⟨rfl, hkE⟩
  · have hno : many < 1 ∨ 16 < many ∨ words < 1 ∨ 16 < words := by omega
    clear hok
    go_enter Try.func3, Try.ntmps3
    go_wp2_with fail
    refine (awake18 W0).mono ?_
    rintro _ w1 ⟨rfl, hk1⟩
    go_wp2_with fail
    refine (qNew_no w1 many words hno).mono ?_
    rintro _ w2 ⟨rfl, hk2⟩
    go_wp2_with fail
    refine (rNew_no w2 many words hno).mono ?_
    rintro _ w3 ⟨rfl, hk3⟩
    have HE := Lib.hid ((hk1.trans hk2).trans hk3)
    clear hno hk1 hk2 hk3 hv hx
    generalize xs.length = l at *
    go_wp2_with fail
    go_loopg [12] 0 (fun gn i wr => i = .int .i64 0 ∧ wr = w3 ∧ gn = 0)
    case atStart => exact ⟨rfl, rfl, rfl⟩
    case round =>
      obtain ⟨rfl, rfl, rfl⟩ := hrel
      by_cases hl : 0 < l
      all_goals
        go_wp2
        go_ret
        exact ⟨rfl, HE.out⟩
end Go.Proofs.Ytjiienoflgolpaa
