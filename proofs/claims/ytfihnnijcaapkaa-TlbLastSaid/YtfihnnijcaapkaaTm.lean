import Derived.Test.YtfihnnijcaapkaaTl
import Derived.Test.YtfihnnijcaapkaaTk
import Derived.Deep.RegionWith
namespace Go.Proofs.Ytfihnnijcaapkaa
open Go.RowKit
set_option linter.unusedSimpArgs false
set_option linter.unusedVariables false
attribute [local go_sem] ob_alloc ob_drew ob_drewN ob_setCell ob_setBlock objSet_cells obMap_map obClock_map isMapI_map keyI_mk findI_nil findI_cons lookRes_some lookRes_none lookRes_some' lookRes_none' setBlock_alloc mapPut
attribute [local go_sem ↓] eql29 neq29

theorem Arg9.at {bb off : Nat} {E : Nat → Int × Ln} {j : Nat} {w : World} (h : Arg9 bb off E j w) {at' a p f : Int} {lw : Bool} (e : E j = (at', ⟨a, p, f, lw⟩)) :
    w.cell? ⟨bb, off + j * 6 + 1, none⟩ = some (.int .i64 at') ∧ w.cell? ⟨bb, off + j * 6 + 2, none⟩ = some (.int .i64 a) ∧ w.cell? ⟨bb, off + j * 6 + 3, none⟩ = some (.int .i64 p) ∧
      w.cell? ⟨bb, off + j * 6 + 4, none⟩ = some (.int .i64 f) ∧ w.cell? ⟨bb, off + j * 6 + 5, none⟩ = some (.bool lw) := by
  unfold Arg9 at h
  rw [e] at h
  exact h
theorem B1.putTo {W0 : World} {b : Nat} {w : World} {S S1 : Nat → Option Ln} (h : B1 W0 b w S) {a p f : Int} {lw : Bool} {at' r : Int} (hr : putR ⟨a, p, f, lw⟩ at' = r) (hS : putS S ⟨a, p, f, lw⟩ at' = S1) :
    Calls Try.prog 13 #[.pointer (some ⟨b, 0, none⟩), .agg #[.int .i64 a, .int .i64 p, .int .i64 f, .bool lw], .int .i64 at'] w fun e w' => e = .returned (.int .i64 r) ∧ B1 W0 b w' S1 ∧ Keep [b] w w' := by
  have := h.put a p f lw at'
  rw [hr, hS] at this
  exact this
set_option maxRecDepth 100000 in
set_option maxHeartbeats 40000000 in
theorem last09 (W0 : World) (v0 : Value) (xs : List (List Value)) (hv : RdA W0 6 v0 xs) (hx : ∀ c ∈ xs, GCells W0 [.int .i64, .int .i64, .int .i64, .int .i64, .int .i64, .bool] c) :
    Calls Try.prog 3 #[v0] W0 fun o w' => o = .returned (.bool true) ∧ Keep [] W0 w' := by
  obtain ⟨a0, cap0, rfl, hc1, hc2⟩ := hv.len
  unfold maxLen at hc2
  go_enter Try.func3, Try.ntmps3
  go_wp2_with fail
  refine (awake09 W0).mono ?_
  rintro _ w1 ⟨rfl, hk1⟩
  go_wp2_with fail
  refine (tNew w1).mono ?_
  rintro _ w2 ⟨rfl, hB2, hk2, hs2⟩
  have hA0 : B1 W0 w1.heap.size w2 (fun _ => none) := ⟨hB2.addK (by simp), Uniq.none, hk1.trans hk2, hk1.size⟩
  generalize w1.heap.size = b at *
  clear hB2 hk1 hk2 hs2
  generalize hn : xs.length = n at *
  by_cases h100 : n ≤ 100
  · go_wp2_with fail
    go_loopg [5] n (fun gn i wr => ∃ (k : Nat) (S : Nat → Option Ln), i = .int .i64 k ∧ k ≤ n ∧ gn = n - k ∧ B1 W0 b wr S ∧ InvL (en9 xs) k S)
    case atStart => exact ⟨0, _, rfl, by omega, by omega, hA0, InvL.zero _⟩
    case round =>
      clear hA0
      obtain ⟨k, S, rfl, hkn, rfl, hA, hI⟩ := hrel
      by_cases hlt : k < n
      · obtain ⟨bb, off, cap', hveq, hbb, hXA⟩ := args9 hv hx (by omega)
        simp only [Value.slice.injEq, hn, true_and] at hveq
        obtain ⟨rfl, rfl⟩ := hveq
        rw [hn] at hXA
        have HX := Lib.hid hXA
        have hXk := hXA wr hA.kp k hlt
        have HI := Lib.hid (hI.step hA.un)
        clear hv hx hXA hI hn
        generalize en9 xs = E at *
        obtain ⟨⟨at', a, p, f, lw⟩, hE⟩ : ∃ e, E k = e := ⟨_, rfl⟩
        obtain ⟨l1, l2, l3, l4, l5⟩ := hXk.at hE
        rw [hE] at HI
        have HE := Lib.hid hE
        have hU := hA.un
        have hD := hA.drew
        clear hE hXk hA
        by_cases hok : okPut ⟨a, p, f, lw⟩ at' = true
        · have HF := Lib.hid (find_put hU hok)
          have hpr : putR ⟨a, p, f, lw⟩ at' = 0 := by unfold putR; rw [if_pos hok]
          obtain ⟨S1, hS1⟩ : ∃ S1, putS S ⟨a, p, f, lw⟩ at' = S1 := ⟨_, rfl⟩
          rw [hS1] at HF HI
          have HP := Lib.hid (And.intro hpr hS1)
          clear hpr hS1 hok hU
          go_wp2_with fail
          go_cut [46] from 28 to 187 (fun s46 wx => s46 = .bool false ∧ B1 W0 b wx S1)
          case first =>
            go_region_with
              (first
                | (go_at_call 13; refine (B1.putTo (by assumption) HP.out.1 HP.out.2).mono ?_; rintro _ w5 ⟨rfl, hD, _⟩))
            all_goals
              go_wp2_with fail
              go_meet
              exact ⟨rfl, hD⟩
          case rest =>
            obtain ⟨rfl, hA⟩ := hcut
            clear l1 l2 l3 l4 l5 hD HP
            generalize wc = wa at *
            go_wp2_with fail
            obtain ⟨-, p0, p1, -, -⟩ := (HX.out wa hA.kp k hlt).at HE.out
            have HAo := Lib.hid hA
            have hbw : bb < wa.heap.size := Nat.lt_of_lt_of_le hbb hA.kp.size
            go_cut [6, 7] from 28 to 187 (fun s6 s7 wx => s7 = .bool true ∧ ∃ x, s6 = .pointer (some ⟨x, 0, none⟩) ∧ ob wx x = some (lnO ⟨a, p, f, lw⟩) ∧ Keep [] wa wx)
            case first =>
              have hkA : Keep [] wa (wa.alloc (.cells #[.int .i64 0, .int .i64 0, .int .i64 0, .bool false] 29)).drew := ((Keep.refl _ _).alloc _).drew
              have ez : ob (wa.alloc (.cells #[.int .i64 0, .int .i64 0, .int .i64 0, .bool false] 29)).drew wa.heap.size = some _ := al_new _ _ rfl
              have HD := Lib.hid (And.intro hA.drew (hA.new hkA))
              have HZ := Lib.hid ez
              have q0 := hkA.cell p0 (by simp)
              have q1 := hkA.cell p1 (by simp)
              have HKA := Lib.hid hkA
              have HAA := Lib.hid hA
              have HG : Hid (bb ≠ wa.heap.size) := Lib.hid (by omega)
              clear hA ez hkA
              go_region_held3 (fun w' => w'.cell? ⟨bb, off + k * 6 + 2, none⟩ = some (.int .i64 a) ∧ w'.cell? ⟨bb, off + k * 6 + 3, none⟩ = some (.int .i64 p)) (first | exact ⟨p0, p1⟩ | exact ⟨q0, q1⟩ | exact ⟨r0, r1⟩ | exact ⟨t0, t1⟩ | go_keep)
                (first
                  | (go_at_call 14; refine (B1.findY (by first | with_reducible exact HD.out.1 | with_reducible exact HD.out.2) HF.out).mono ?_; rintro _ w5 ⟨rfl, hD, hkD⟩; first | (have r0 := Keep.cell (by with_reducible exact hkD) q0 (by simp); have r1 := Keep.cell hkD q1 (by simp); have ex := cell_of_ob (Keep.kp hkD HZ.out (by simp)); have ex0 : w5.cell? ⟨wa.heap.size, 0, none⟩ = some (.int .i64 0) := ex 0; have ex1 : w5.cell? ⟨wa.heap.size, 1, none⟩ = some (.int .i64 0) := ex 1; have ex2 : w5.cell? ⟨wa.heap.size, 2, none⟩ = some (.int .i64 0) := ex 2; have ex3 : w5.cell? ⟨wa.heap.size, 3, none⟩ = some (.bool false) := ex 3; have ef := free_of_ob (Keep.kp hkD HZ.out (by simp)); have ef0 := ef 0; have ef1 := ef 1; have ef2 := ef 2; have ef3 := ef 3; clear ex ef; have hkS : Keep [wa.heap.size] w5 ((((w5.setCell ⟨wa.heap.size, 0, none⟩ (.int .i64 a)).setCell ⟨wa.heap.size, 1, none⟩ (.int .i64 p)).setCell ⟨wa.heap.size, 2, none⟩ (.int .i64 f)).setCell ⟨wa.heap.size, 3, none⟩ (.bool lw)) := (((((Keep.refl _ _).setCell (.inl (by simp)) 0 _).setCell (.inl (by simp)) 1 _).setCell (.inl (by simp)) 2 _).setCell (.inl (by simp)) 3 _); have t0 := hkS.cell r0 (by simp; exact HG.out); have t1 := hkS.cell r1 (by simp; exact HG.out); have HKS := Lib.hid hkS; clear hkS) | (have r0 := Keep.cell (show Keep [] wa w5 from (((Keep.refl [] wa).drew).trans hkD)) p0 (by simp); have r1 := Keep.cell (show Keep [] wa w5 from (((Keep.refl [] wa).drew).trans hkD)) p1 (by simp); have t0 := Keep.cell ((Keep.refl [] w5).alloc (.cells #[.int .i64 a, .int .i64 p, .int .i64 f, .bool lw] 29)) r0 (by simp); have t1 := Keep.cell ((Keep.refl [] w5).alloc (.cells #[.int .i64 a, .int .i64 p, .int .i64 f, .bool lw] 29)) r1 (by simp))))
              focus
                go_wp2_with fail
                go_meet
                exact ⟨rfl, _, rfl, al_new _ _ rfl, (((Keep.refl [] wa).drew).trans hkD).alloc _⟩
              focus
                go_wp2_with fail
                go_meet
                have hkF := (HKA.out.trans hkD).andThen HKS.out (by simp)
                exact ⟨rfl, _, rfl, (st_same (st_same (st_same (st_same (hkD.kp HZ.out (by simp)))))).trans rfl, hkF⟩
            case rest =>
              obtain ⟨rfl, x, rfl, hx, hkc⟩ := hcut
              clear p0 p1 hA
              have hA := HAo.out.new hkc
              clear hkc HAo hbw
              generalize wc = wb at *
              obtain ⟨-, l2, l3, l4, l5⟩ := (HX.out wb hA.kp k hlt).at HE.out
              have x0 : wb.cell? ⟨x, 0, none⟩ = some (.int .i64 a) := by rw [cell_of_ob hx]; rfl
              have x1 : wb.cell? ⟨x, 1, none⟩ = some (.int .i64 p) := by rw [cell_of_ob hx]; rfl
              have x2 : wb.cell? ⟨x, 2, none⟩ = some (.int .i64 f) := by rw [cell_of_ob hx]; rfl
              have x3 : wb.cell? ⟨x, 3, none⟩ = some (.bool lw) := by rw [cell_of_ob hx]; rfl
              have hi0 : (0 : Int) ≤ (k : Int) := by omega
              have hi1 : (k : Int) < (n : Int) := by omega
              have HA := Lib.hid hA
              clear hx hA
              go_wp2_with fail
              go_quiet (fail)
              clear x0 x1 x2 x3 l2 l3 l4 l5
              go_wp2_with fail
              refine (HA.out.drewN _).lines.mono ?_
              rintro _ w6 ⟨va, vc, rfl, hR6, hA6, hk6⟩
              have HM : Hid (∀ l, l ∈ linesR S1 8 → findR S1 l.a l.p = some l ∧ lastR E l.a l.p (k + 1) = l) := Lib.hid (fun l hl => ⟨find_mem hA6.un hl, HI.out.line hl⟩)
              have hm8 := linesR_len S1 8
              generalize linesR S1 8 = ys at *
              generalize hm : ys.length = m at *
              have HYM := Lib.hid hm
              clear hm hk6 HA
              generalize (wb.drewN _).heap.size = B at *
              have HA6 := Lib.hid (And.intro hA6 hR6)
              clear hA6 hR6
              go_wp2_with fail
              go_loopg [9] m (fun gn i wr => ∃ q : Nat, i = .int .i64 q ∧ q ≤ m ∧ gn = m - q ∧ B1 W0 b wr S1 ∧ RowE lnE 29 wr B (.slice va m vc) ys)
              case atStart => exact ⟨0, rfl, by omega, by omega, HA6.out.1, HA6.out.2⟩
              case round =>
                clear HA6
                obtain ⟨q, rfl, hqm, rfl, hA, hR⟩ := hrel
                by_cases hql : q < m
                · have hlx : q < ys.length := by have := HYM.out; omega
                  have hyq : ys[q]? = some ys[q] := List.getElem?_eq_getElem hlx
                  have hML := HM.out _ (List.getElem_mem hlx)
                  generalize ys[q] = l at *
                  obtain ⟨la, lp, lf, lb⟩ := l
                  simp only at hML
                  have HFq := Lib.hid hML.1
                  have HLq := Lib.hid hML.2
                  obtain ⟨g1, c1, e1, left, left_1, b1, b2, hc1⟩ := hR.get hyq
                  simp only [Value.slice.injEq, true_and] at e1
                  obtain ⟨rfl, -, rfl⟩ := e1
                  rw [HYM.out] at b1
                  have p0 := hc1 0 _ rfl
                  have p1 := hc1 1 _ rfl
                  rw [Nat.add_zero] at p0
                  have HAo := Lib.hid (And.intro hA hR)
                  clear hc1 hlx hML hR
                  go_wp2_with fail
                  obtain ⟨wq, hwq⟩ : ∃ wq, wr = wq := ⟨_, rfl⟩
                  subst hwq
                  go_cut [10, 11] from 80 to 187 (fun s10 s11 wx => s11 = .bool true ∧ ∃ x, s10 = .pointer (some ⟨x, 0, none⟩) ∧ ob wx x = some (lnO ⟨la, lp, lf, lb⟩) ∧ Keep [] wr wx)
                  case first =>
                    have hkA : Keep [] wr (wr.alloc (.cells #[.int .i64 0, .int .i64 0, .int .i64 0, .bool false] 29)).drew := ((Keep.refl _ _).alloc _).drew
                    have ez : ob (wr.alloc (.cells #[.int .i64 0, .int .i64 0, .int .i64 0, .bool false] 29)).drew wr.heap.size = some _ := al_new _ _ rfl
                    have HD := Lib.hid (And.intro hA.drew (hA.new hkA))
                    have HZ := Lib.hid ez
                    have q0 := hkA.cell p0 (by simp)
                    have q1 := hkA.cell p1 (by simp)
                    have HKA := Lib.hid hkA
                    have HAA := Lib.hid hA
                    have HG : Hid (g1 ≠ wr.heap.size) := Lib.hid (by omega)
                    clear hA ez hkA
                    go_region_held3 (fun w' => w'.cell? ⟨g1, q * 4, none⟩ = some (.int .i64 la) ∧ w'.cell? ⟨g1, q * 4 + 1, none⟩ = some (.int .i64 lp)) (first | exact ⟨p0, p1⟩ | exact ⟨q0, q1⟩ | exact ⟨r0, r1⟩ | exact ⟨t0, t1⟩ | go_keep)
                      (first
                        | (go_at_call 14; refine (B1.findY (by first | with_reducible exact HD.out.1 | with_reducible exact HD.out.2) HFq.out).mono ?_; rintro _ w5 ⟨rfl, hD, hkD⟩; first | (have r0 := Keep.cell (by with_reducible exact hkD) q0 (by simp); have r1 := Keep.cell hkD q1 (by simp); have ex := cell_of_ob (Keep.kp hkD HZ.out (by simp)); have ex0 : w5.cell? ⟨wr.heap.size, 0, none⟩ = some (.int .i64 0) := ex 0; have ex1 : w5.cell? ⟨wr.heap.size, 1, none⟩ = some (.int .i64 0) := ex 1; have ex2 : w5.cell? ⟨wr.heap.size, 2, none⟩ = some (.int .i64 0) := ex 2; have ex3 : w5.cell? ⟨wr.heap.size, 3, none⟩ = some (.bool false) := ex 3; have ef := free_of_ob (Keep.kp hkD HZ.out (by simp)); have ef0 := ef 0; have ef1 := ef 1; have ef2 := ef 2; have ef3 := ef 3; clear ex ef; have hkS : Keep [wr.heap.size] w5 ((((w5.setCell ⟨wr.heap.size, 0, none⟩ (.int .i64 la)).setCell ⟨wr.heap.size, 1, none⟩ (.int .i64 lp)).setCell ⟨wr.heap.size, 2, none⟩ (.int .i64 lf)).setCell ⟨wr.heap.size, 3, none⟩ (.bool lb)) := (((((Keep.refl _ _).setCell (.inl (by simp)) 0 _).setCell (.inl (by simp)) 1 _).setCell (.inl (by simp)) 2 _).setCell (.inl (by simp)) 3 _); have t0 := hkS.cell r0 (by simp; exact HG.out); have t1 := hkS.cell r1 (by simp; exact HG.out); have HKS := Lib.hid hkS; clear hkS) | (have r0 := Keep.cell (show Keep [] wr w5 from (((Keep.refl [] wr).drew).trans hkD)) p0 (by simp); have r1 := Keep.cell (show Keep [] wr w5 from (((Keep.refl [] wr).drew).trans hkD)) p1 (by simp); have t0 := Keep.cell ((Keep.refl [] w5).alloc (.cells #[.int .i64 la, .int .i64 lp, .int .i64 lf, .bool lb] 29)) r0 (by simp); have t1 := Keep.cell ((Keep.refl [] w5).alloc (.cells #[.int .i64 la, .int .i64 lp, .int .i64 lf, .bool lb] 29)) r1 (by simp))))
                    focus
                      go_wp2_with fail
                      go_meet
                      exact ⟨rfl, _, rfl, al_new _ _ rfl, (((Keep.refl [] wr).drew).trans hkD).alloc _⟩
                    focus
                      go_wp2_with fail
                      go_meet
                      have hkF := (HKA.out.trans hkD).andThen HKS.out (by simp)
                      exact ⟨rfl, _, rfl, (st_same (st_same (st_same (st_same (hkD.kp HZ.out (by simp)))))).trans rfl, hkF⟩
                  case rest =>
                    obtain ⟨rfl, x, rfl, hx, hkc⟩ := hcut
                    have hA2 := HAo.out.1.new hkc
                    have hR2 := HAo.out.2.keep hkc (by simp)
                    clear p0 p1 hA HAo hkc
                    obtain ⟨g2, c2, e2, -, -, -, -, hc2'⟩ := hR2.get hyq
                    simp only [Value.slice.injEq, true_and] at e2
                    obtain ⟨e3, -, rfl⟩ := e2
                    cases e3
                    have p0 := hc2' 0 _ rfl
                    have p1 := hc2' 1 _ rfl
                    have p2 := hc2' 2 _ rfl
                    have p3 := hc2' 3 _ rfl
                    rw [Nat.add_zero] at p0
                    have x0 : wc.cell? ⟨x, 0, none⟩ = some (.int .i64 la) := by rw [cell_of_ob hx]; rfl
                    have x1 : wc.cell? ⟨x, 1, none⟩ = some (.int .i64 lp) := by rw [cell_of_ob hx]; rfl
                    have x2 : wc.cell? ⟨x, 2, none⟩ = some (.int .i64 lf) := by rw [cell_of_ob hx]; rfl
                    have x3 : wc.cell? ⟨x, 3, none⟩ = some (.bool lb) := by rw [cell_of_ob hx]; rfl
                    have hj0 : (0 : Int) ≤ (q : Int) := by omega
                    have hj1 : (q : Int) < (m : Int) := by omega
                    have HA2 := Lib.hid (And.intro hA2 hR2)
                    clear hx hA2 hR2 hc2'
                    go_wp2_with fail
                    go_quiet (fail)
                    clear x0 x1 x2 x3 p0 p1 p2 p3
                    have hA3 := HA2.out.1.drewN nq
                    have hR3 : RowE lnE 29 (wc.drewN nq) B _ ys := HA2.out.2.keep ((Keep.refl [] _).drewN nq) (by simp)
                    generalize wc.drewN nq = wd at *
                    have HA3 := Lib.hid (And.intro hA3 hR3)
                    have hyn := al_new wd (.cells #[.int .i64 0, .int .i64 0, .int .i64 0, .bool false] 29) rfl
                    have hky : Keep [] wd (wd.alloc (.cells #[.int .i64 0, .int .i64 0, .int .i64 0, .bool false] 29)) := (Keep.refl _ _).alloc _
                    have HY := Lib.hid (And.intro hyn hky)
                    clear hA3 hR3 HA2 hyn hky
                    go_wp2_with fail
                    generalize wd.alloc (.cells #[.int .i64 0, .int .i64 0, .int .i64 0, .bool false] 29) = wy at *
                    have HYB : Hid (wd.heap.size ≤ wd.heap.size) := Lib.hid (Nat.le_refl _)
                    generalize hyy : wd.heap.size = y at HYB HY ⊢
                    have HYB : Hid (wd.heap.size ≤ y) := Lib.hid (Nat.le_of_eq hyy)
                    clear hyy
                    go_loopg [13] (k + 1) (fun gn j wx => ∃ t : Nat, j = .int .i64 t ∧ t ≤ k + 1 ∧ gn = k + 1 - t ∧ Keep [] wd wx ∧ ob wx y = some (lnO (lastR E la lp t)))
                    case atStart => exact ⟨0, rfl, by omega, by omega, HY.out.2, HY.out.1⟩
                    case round =>
                      as_aux_lemma =>
                      clear HY
                      obtain ⟨t, rfl, htk, rfl, hkx, hox⟩ := hrel
                      have hR5 := HA3.out.2.keep hkx (by simp)
                      obtain ⟨g5, c5, e5, -, -, -, -, hc5⟩ := hR5.get hyq
                      simp only [Value.slice.injEq, true_and] at e5
                      obtain ⟨e6, -, rfl⟩ := e5
                      cases e6
                      have p0 := hc5 0 _ rfl
                      have p1 := hc5 1 _ rfl
                      have p2 := hc5 2 _ rfl
                      have p3 := hc5 3 _ rfl
                      rw [Nat.add_zero] at p0
                      clear hR5 hc5
                      by_cases htl : t < k + 1
                      · --[[
                        have htn : t < n := by omega
                        obtain ⟨⟨at2, a2, pp2, f2, lw2⟩, hE2⟩ : ∃ e, E t = e := ⟨_, rfl⟩
                        obtain ⟨l1, l2, l3, l4, l5⟩ := (HX.out wr (HA3.out.1.kp.trans hkx) t htn).at hE2
                        have HE2 := Lib.hid hE2
                        have HKX := Lib.hid (And.intro hkx hox)
                        have ht0 : (0 : Int) ≤ (t : Int) := by omega
                        have ht1 : (t : Int) < (n : Int) := by omega
                        clear hE2 hkx hox
                        go_wp2_with fail
                        go_cut [176] from 112 to 181 (fun s wx => s = .bool (okF (at2, ⟨a2, pp2, f2, lw2⟩) la lp) ∧ ∃ nd, wx = wr.drewN nd)
                        case first =>
                          as_aux_lemma =>
                          have hokF := @okF_parts (at2, ⟨a2, pp2, f2, lw2⟩) la lp
                          simp only at hokF
                          generalize okF (at2, ⟨a2, pp2, f2, lw2⟩) la lp = ok at *
                          have HOK := Lib.hid hokF
                          clear hokF l5 p2 p3
                          by_cases d1 : a2 = la
                          · have c1 : (a2 == la) = true := by simpa using d1
                            by_cases d2 : pp2 = lp
                            · have c2 : (pp2 == lp) = true := by simpa using d2
                              by_cases d3 : 0 ≤ at2
                              · have c3 := eq_true d3
                                by_cases d4 : at2 < 8
                                · have c4 := eq_true d4
                                  by_cases d5 : 0 ≤ f2
                                  · have c5 := eq_true d5
                                    by_cases d6 : f2 < 256
                                    · have c6 := eq_true d6
                                      have HC : Hid (ok = true) := Lib.hid (HOK.out.2 ⟨d1, d2, d3, d4, d5, d6⟩)
                                      clear HOK d1 d2
                                      go_quiet (fail)
                                      go_wp2_with fail
                                      go_meet
                                      exact ⟨by rw [HC.out], _, rfl⟩
                                    · have c6 := eq_false d6
                                      have HC : Hid (ok = false) := Lib.hid (Bool.eq_false_iff.2 fun h => d6 (HOK.out.1 h).2.2.2.2.2)
                                      clear HOK d1 d2
                                      go_quiet (fail)
                                      go_wp2_with fail
                                      go_meet
                                      exact ⟨by rw [HC.out], _, rfl⟩
                                  · have c5 := eq_false d5
                                    have HC : Hid (ok = false) := Lib.hid (Bool.eq_false_iff.2 fun h => d5 (HOK.out.1 h).2.2.2.2.1)
                                    clear HOK d1 d2
                                    go_quiet (fail)
                                    go_wp2_with fail
                                    go_meet
                                    exact ⟨by rw [HC.out], _, rfl⟩
                                · have c4 := eq_false d4
                                  have HC : Hid (ok = false) := Lib.hid (Bool.eq_false_iff.2 fun h => d4 (HOK.out.1 h).2.2.2.1)
                                  clear HOK d1 d2
                                  go_quiet (fail)
                                  go_wp2_with fail
                                  go_meet
                                  exact ⟨by rw [HC.out], _, rfl⟩
                              · have c3 := eq_false d3
                                have HC : Hid (ok = false) := Lib.hid (Bool.eq_false_iff.2 fun h => d3 (HOK.out.1 h).2.2.1)
                                clear HOK d1 d2
                                go_quiet (fail)
                                go_wp2_with fail
                                go_meet
                                exact ⟨by rw [HC.out], _, rfl⟩
                            · have c2 : (pp2 == lp) = false := by simpa using d2
                              have HC : Hid (ok = false) := Lib.hid (Bool.eq_false_iff.2 fun h => d2 (HOK.out.1 h).2.1)
                              clear HOK d1 d2
                              go_quiet (fail)
                              go_wp2_with fail
                              go_meet
                              exact ⟨by rw [HC.out], _, rfl⟩
                          · have c1 : (a2 == la) = false := by simpa using d1
                            have HC : Hid (ok = false) := Lib.hid (Bool.eq_false_iff.2 fun h => d1 (HOK.out.1 h).1)
                            clear HOK d1
                            go_quiet (fail)
                            go_wp2_with fail
                            go_meet
                            exact ⟨by rw [HC.out], _, rfl⟩
                        case rest =>
                          as_aux_lemma =>
                          obtain ⟨rfl, nd, rfl⟩ := hcut
                          clear p0 p1 p2 p3 l1
                          have hkx := HKX.out.1.drewN nd
                          have hox : ob (wr.drewN nd) y = _ := HKX.out.2
                          have m2 : (wr.drewN nd).cell? ⟨bb, off + t * 6 + 2, none⟩ = _ := l2
                          have m3 : (wr.drewN nd).cell? ⟨bb, off + t * 6 + 3, none⟩ = _ := l3
                          have m4 : (wr.drewN nd).cell? ⟨bb, off + t * 6 + 4, none⟩ = _ := l4
                          have m5 : (wr.drewN nd).cell? ⟨bb, off + t * 6 + 5, none⟩ = _ := l5
                          clear l2 l3 l4 l5 HKX
                          generalize wr.drewN nd = wz at *
                          cases hof : okF (at2, ⟨a2, pp2, f2, lw2⟩) la lp with
                          | true =>
                            have HL5 := Lib.hid (lastR_yes (E := E) (n := t) (a := la) (p := lp) (by rw [HE2.out]; exact hof))
                            rw [HE2.out] at HL5
                            have y0 := cell_of_ob hox 0
                            have y1 := cell_of_ob hox 1
                            have y2 := cell_of_ob hox 2
                            have y3 := cell_of_ob hox 3
                            simp only [List.getElem?_toArray, List.getElem?_cons_zero, List.getElem?_cons_succ] at y0 y1 y2 y3
                            have z := free_of_ob hox
                            have z0 := z 0
                            have z1 := z 1
                            have z2 := z 2
                            have z3 := z 3
                            have HKX := Lib.hid (And.intro hkx hox)
                            clear z hkx hox hof
                            go_wp2_with fail
                            go_roundg (k + 1 - (t + 1))
                            case measure => omega
                            case rel =>
                              refine ⟨t + 1, by go_num, by omega, rfl, ((((HKX.out.1.setCell (.inr ?_) _ _).setCell (.inr ?_) _ _).setCell (.inr ?_) _ _).setCell (.inr ?_) _ _), by rw [HL5.out]; exact (st_same (st_same (st_same (st_same HKX.out.2)))).trans rfl⟩
                              all_goals exact HYB.out
                          | false =>
                            have HL5 := Lib.hid (lastR_no (E := E) (n := t) (a := la) (p := lp) (by rw [HE2.out]; exact hof))
                            have HKX := Lib.hid (And.intro hkx hox)
                            clear m2 m3 m4 m5 hkx hox hof
                            go_wp2_with fail
                            go_roundg (k + 1 - (t + 1))
                            case measure => omega
                            case rel => exact ⟨t + 1, by go_num, by omega, rfl, HKX.out.1, by rw [HL5.out]; exact HKX.out.2⟩
                      · obtain rfl : t = k + 1 := by omega
                        rw [HLq.out] at hox
                        have y0 : wr.cell? ⟨y, 0, none⟩ = some (.int .i64 la) := by rw [cell_of_ob hox]; rfl
                        have y1 : wr.cell? ⟨y, 1, none⟩ = some (.int .i64 lp) := by rw [cell_of_ob hox]; rfl
                        have y2 : wr.cell? ⟨y, 2, none⟩ = some (.int .i64 lf) := by rw [cell_of_ob hox]; rfl
                        have y3 : wr.cell? ⟨y, 3, none⟩ = some (.bool lb) := by rw [cell_of_ob hox]; rfl
                        have HKX := Lib.hid hkx
                        clear hkx hox
                        go_wp2_with fail
                        go_quiet (fail)
                        clear y0 y1 y2 y3 p0 p1 p2 p3
                        go_wp2_with fail
                        go_roundg (m - (q + 1))
                        case measure => omega
                        case rel => exact ⟨q + 1, by go_num, by omega, rfl, HA3.out.1.new (HKX.out.drewN _), HA3.out.2.keep (HKX.out.drewN _) (by simp)⟩
                · obtain rfl : q = m := by omega
                  have HA := Lib.hid hA
                  clear hA hR
                  go_wp2_with fail
                  go_roundg (n - (k + 1))
                  case measure => omega
                  case rel => exact ⟨k + 1, _, by go_num, by omega, rfl, HA.out, HI.out⟩
        · have hpr : putR ⟨a, p, f, lw⟩ at' = 1 := by unfold putR; rw [if_neg hok]
          have hS1 : putS S ⟨a, p, f, lw⟩ at' = S := by unfold putS; rw [if_neg hok]
          rw [hS1] at HI
          have HP := Lib.hid (And.intro hpr hS1)
          clear hpr hS1 hok hU
          go_wp2_with fail
          go_region_with
            (first
              | (go_at_call 13; refine (B1.putTo (by assumption) HP.out.1 HP.out.2).mono ?_; rintro _ w5 ⟨rfl, hD, _⟩))
          all_goals
            go_wp2_with fail
            go_roundg (n - (k + 1))
            case measure => omega
            case rel => exact ⟨k + 1, _, by go_num, by omega, rfl, hD, HI.out⟩
      · obtain rfl : k = n := by omega
        have HA := Lib.hid hA.kp
        clear hv hx hA hI
        go_wp2
        go_ret
        exact ⟨rfl, HA.out⟩
  · have hE := hA0.kp
    clear hA0 hv hx
    go_wp2
    go_ret
    exact ⟨rfl, hE⟩
end Go.Proofs.Ytfihnnijcaapkaa
