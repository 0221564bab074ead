import Derived.Test.YtjiienoflgolpaaHe
namespace Go.Proofs.Ytjiienoflgolpaa
open Go.RowKit
set_option linter.unusedSimpArgs false
set_option linter.unusedVariables false
attribute [local go_sem] ob_alloc ob_drew ob_drewN ob_setCell ob_setBlock objSet_cells obMap_map obClock_map isMapI_map keyI_mk findI_nil findI_cons lookRes_some lookRes_none lookRes_some' lookRes_none' setBlock_alloc mapPut

theorem BH.cells {W0 : World} {p r b : Nat} {w : World} {s t : Nat → Int} {d q a k : Int} (h : BH W0 p r b (.cells #[.int .i64 d, .int .i64 q, .int .i64 a, .int .i64 k] 62 (0, 0)) w s t) :
    w.cell? ⟨b, 0, none⟩ = some (.int .i64 d) ∧ w.cell? ⟨b, 1, none⟩ = some (.int .i64 q) ∧ w.cell? ⟨b, 2, none⟩ = some (.int .i64 a) ∧ w.cell? ⟨b, 3, none⟩ = some (.int .i64 k) := by
  have := cell_of_ob h.ow
  exact ⟨this 0, this 1, this 2, this 3⟩

set_option maxRecDepth 100000 in
set_option maxHeartbeats 3000000 in
theorem plays23 (W0 : World) (v0 : Value) (xs : List (List Value)) (hv : RdA W0 4 v0 xs) (hx : ∀ c ∈ xs, GCells W0 [.int .i64, .int .i64, .int .i64, .int .i64] c) :
    Calls Try.prog 8 #[v0] W0 fun o w' => o = .returned (.bool true) ∧ Keep [] W0 w' := by
  obtain ⟨a0, cap0, rfl, hc1, hc2⟩ := hv.len
  unfold maxLen at hc2
  go_enter Try.func8, Try.ntmps8
  go_wp2_with fail
  refine (awake23 W0).mono ?_
  rintro _ w1 ⟨rfl, hk1⟩
  go_wp2_with fail
  refine (hNew w1).mono ?_
  rintro _ w2 ⟨rfl, hM2, hk2, hs2⟩
  go_wp2_with fail
  refine (rNew w2).mono ?_
  rintro _ w3 ⟨rfl, hR3, hk3, hs3⟩
  have hM3 := hM2.keep hk3 (by simp)
  have hk : Keep [] W0 w3 := (hk1.trans hk2).trans hk3
  have hp0 : W0.heap.size ≤ w1.heap.size := hk1.size
  have hr0 : w1.heap.size < w2.heap.size := hs2
  generalize w1.heap.size = p at *
  generalize w2.heap.size = r at *
  clear hM2 hk1 hk2 hk3
  go_wp2_with fail
  go_loopw [6] (fun i wr => ∃ (k : Nat) (s t : Nat → Int), i = .int .i64 k ∧ k ≤ 120 ∧ k ≤ xs.length ∧ HMon wr p s ∧ RMon wr r t ∧ HR s t ∧ Keep [] W0 wr) (fun i _ => 120 - (intOf i).toNat)
  case atStart => exact ⟨0, _, _, rfl, by omega, by omega, hM3, hR3, HR.start, hk⟩
  case round =>
    obtain ⟨k, s, t, rfl, hk120, hkn, hM, hR, hr, hkp⟩ := hrel
    clear hM3 hR3 hk
    by_cases hlt : k < xs.length
    · by_cases h120 : k < 120
      · obtain ⟨b, off, cap', hveq, hb, hcells⟩ := (hv.keep hkp (by simp)).2 (by omega)
        simp only [Value.slice.injEq, true_and] at hveq
        obtain ⟨rfl, rfl⟩ := hveq
        have hxk : xs[k]? = some xs[k] := List.getElem?_eq_getElem hlt
        obtain ⟨hc3, hrange⟩ := hcells k _ hxk
        obtain ⟨_, _, hxe, ⟨d, rfl, wd⟩, _, _, rfl, ⟨q, rfl, wq⟩, _, _, rfl, ⟨a, rfl, wa⟩, _, _, rfl, ⟨kd, rfl, wk⟩, rfl⟩ := hx _ (List.getElem_mem hlt)
        rw [hxe] at hrange
        have l0 := hrange 0 _ rfl
        have l1 := hrange 1 _ rfl
        have l2 := hrange 2 _ rfl
        have l3 := hrange 3 _ rfl
        rw [Nat.add_zero] at l0
        clear hv hx hcells hxk hrange hc3 hxe wd wq wa wk
        generalize xs.length = n at *
        have lM := ob_lt hM
        have lR := ob_lt hR
        have hB : BH W0 p r wr.heap.size (.cells #[.int .i64 d, .int .i64 q, .int .i64 a, .int .i64 kd] 62 (0, 0)) (wr.alloc (.cells #[.int .i64 d, .int .i64 q, .int .i64 a, .int .i64 kd] 62)) s t :=
          ⟨al hM, al hR, al_new _ _ rfl, hkp.alloc _, by omega, by omega, by omega, by omega, by omega⟩
        clear hM hR hkp lM lR
        by_cases hd0 : d = 0
        · subst hd0
          go_wp2_with fail
          generalize wr.heap.size = bo at *
          generalize wr.alloc (.cells #[.int .i64 0, .int .i64 q, .int .i64 a, .int .i64 kd] 62) = w4 at *
          have hr2 := hr.set q kd a
          obtain ⟨c0, c1, c2, c3⟩ := hB.drew.cells
          have hB' := hB.drew
          clear hr
          go_region_held3 (fun w' => w'.cell? ⟨bo, 1, none⟩ = some (.int .i64 q) ∧ w'.cell? ⟨bo, 2, none⟩ = some (.int .i64 a) ∧ w'.cell? ⟨bo, 3, none⟩ = some (.int .i64 kd)) (go_keep)
            (first
              | (go_at_call 31; refine (BH.set (by assumption) q kd a).mono ?_; rintro _ w5 ⟨rfl, hB5⟩; obtain ⟨e0, e1, e2, e3⟩ := hB5.cells)
              | (go_at_call 35; refine (BH.rset (by assumption) q kd a).mono ?_; rintro _ w5 ⟨rfl, hB5⟩; obtain ⟨e0, e1, e2, e3⟩ := hB5.cells))
          all_goals
            go_wp2_with fail
            have hB6 := hB5.drew
            obtain ⟨e0, e1, e2, e3⟩ := hB6.cells
            go_region_held3 (fun w' => w'.cell? ⟨bo, 1, none⟩ = some (.int .i64 q)) (go_keep)
              (first
                | (go_at_call 33; refine (BH.count (by assumption) q).mono ?_; rintro _ w6 ⟨rfl, hB6⟩; obtain ⟨e0, e1, e2, e3⟩ := hB6.cells)
                | (go_at_call 39; refine (BH.rcount (by assumption) hr2 q).mono ?_; rintro _ w6 ⟨rfl, hB6⟩; obtain ⟨e0, e1, e2, e3⟩ := hB6.cells))
            all_goals
              have H6 := Lib.hid hB6
              have HR2 := Lib.hid hr2
              clear hr2
              go_wp2
              go_roundw
              case rel => exact ⟨k + 1, _, _, by go_num, by omega, by omega, H6.out.hm, H6.out.rm, HR2.out, H6.out.kp⟩
              case measure => simp [intOf]; omega
        · by_cases hd3 : d = 1 ∨ d = 2 ∨ d = 3
          · rcases hd3 with rfl | rfl | rfl
            all_goals
              go_wp2_with fail
              generalize wr.heap.size = bo at *
              generalize wr.alloc (.cells #[.int .i64 _, .int .i64 q, .int .i64 a, .int .i64 kd] 62) = w4 at *
              obtain ⟨c0, c1, c2, c3⟩ := hB.cells
              refine (BH.on hB q kd).mono ?_
              rintro _ w5 ⟨rfl, hB4⟩
              obtain ⟨c0, c1, c2, c3⟩ := hB4.cells
              clear hB
              go_wp2_with fail
              refine (BH.ron hB4 q kd).mono ?_
              rintro _ w5 ⟨rfl, hB5⟩
              rw [← (hr.on q kd).1]
              have hr2 := (hr.on q kd).2
              obtain ⟨c0, c1, c2, c3⟩ := hB5.cells
              clear hB4 hr
              go_wp2_with fail
              have hB6 := hB5.drew
              obtain ⟨e0, e1, e2, e3⟩ := hB6.cells
              go_region_held3 (fun w' => w'.cell? ⟨bo, 1, none⟩ = some (.int .i64 q)) (go_keep)
                (first
                  | (go_at_call 33; refine (BH.count (by assumption) q).mono ?_; rintro _ w6 ⟨rfl, hB6⟩; obtain ⟨e0, e1, e2, e3⟩ := hB6.cells)
                  | (go_at_call 39; refine (BH.rcount (by assumption) hr2 q).mono ?_; rintro _ w6 ⟨rfl, hB6⟩; obtain ⟨e0, e1, e2, e3⟩ := hB6.cells))
              all_goals
                have H6 := Lib.hid hB6
                have HR2 := Lib.hid hr2
                clear hr2
                go_wp2
                go_roundw
                case rel => exact ⟨k + 1, _, _, by go_num, by omega, by omega, H6.out.hm, H6.out.rm, HR2.out, H6.out.kp⟩
                case measure => simp [intOf]; omega
          · have e1 : (d == 1) = false := by simp; omega
            have e2 : (d == 2) = false := by simp; omega
            have e3 : (d == 3) = false := by simp; omega
            have e0 : (d == 0) = false := by simp; omega
            go_wp2_with fail
            generalize wr.heap.size = bo at *
            generalize wr.alloc (.cells #[.int .i64 d, .int .i64 q, .int .i64 a, .int .i64 kd] 62) = w4 at *
            have hr2 := hr.forget q
            have hB' := hB.drew
            obtain ⟨c0, c1, c2, c3⟩ := hB'.cells
            clear hr
            go_region_held3 (fun w' => w'.cell? ⟨bo, 1, none⟩ = some (.int .i64 q)) (go_keep)
              (first
                | (go_at_call 37; refine (BH.forget (by assumption) q).mono ?_; rintro _ w5 ⟨rfl, hB5⟩; obtain ⟨e0, e1, e2, e3⟩ := hB5.cells)
                | (go_at_call 38; refine (BH.rforget (by assumption) q).mono ?_; rintro _ w5 ⟨rfl, hB5⟩; obtain ⟨e0, e1, e2, e3⟩ := hB5.cells))
            all_goals
              go_wp2_with fail
              have hB6 := hB5.drew
              obtain ⟨e0, e1, e2, e3⟩ := hB6.cells
              go_region_held3 (fun w' => w'.cell? ⟨bo, 1, none⟩ = some (.int .i64 q)) (go_keep)
                (first
                  | (go_at_call 33; refine (BH.count (by assumption) q).mono ?_; rintro _ w6 ⟨rfl, hB6⟩; obtain ⟨e0, e1, e2, e3⟩ := hB6.cells)
                  | (go_at_call 39; refine (BH.rcount (by assumption) hr2 q).mono ?_; rintro _ w6 ⟨rfl, hB6⟩; obtain ⟨e0, e1, e2, e3⟩ := hB6.cells))
              all_goals
                have H6 := Lib.hid hB6
                have HR2 := Lib.hid hr2
                clear hr2
                go_wp2
                go_roundw
                case rel => exact ⟨k + 1, _, _, by go_num, by omega, by omega, H6.out.hm, H6.out.rm, HR2.out, H6.out.kp⟩
                case measure => simp [intOf]; omega
      · generalize xs.length = n at *
        clear hv hx hM hR hr
        go_wp2
        go_ret
        exact ⟨rfl, hkp⟩
    · generalize xs.length = n at *
      clear hv hx hM hR hr
      go_wp2
      go_ret
      exact ⟨rfl, hkp⟩
end Go.Proofs.Ytjiienoflgolpaa
