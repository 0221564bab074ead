import Derived.Test.YtfljhfggjbkomaaAo
import Derived.Deep.RegionHeld3
import Derived.Deep.LoopGhost
import Derived.Deep.CutRange
namespace Go.Proofs.Ytfljhfggjbkomaa
open Go.RowKit
set_option linter.unusedSimpArgs false
set_option linter.unusedVariables false
attribute [local go_sem] ob_alloc ob_drew ob_drewN ob_setCell ob_setBlock objSet_cells obMap_map obClock_map isMapI_map keyI_mk findI_nil findI_cons lookRes_some lookRes_none lookRes_some' lookRes_none' setBlock_alloc mapPut
attribute [local go_sem ↓] eql93 neq93 eql98 neq98

/-- how often each was given, at most -/
def fewB (os : List Int) (k : Nat) : Prop := ∀ j, 0 ≤ os.getD j 0 ∧ os.getD j 0 ≤ k
theorem fewB.start (n : Nat) : fewB (List.replicate n 0) 0 := by
  intro j
  simp only [List.getD, List.getElem?_replicate]
  split <;> simp
theorem fewB.mono {os : List Int} {k k' : Nat} (h : fewB os k) (hk : k ≤ k') : fewB os k' := fun j => by have := h j; omega
theorem fewB_inc {os : List Int} {k : Nat} (h : fewB os k) (hk : k ≤ 1000) (j : Nat) : inc (os.getD j 0) = os.getD j 0 + 1 ∧ fewB (os.set j (inc (os.getD j 0))) (k + 1) := by
  have hj := h j
  have e : inc (os.getD j 0) = os.getD j 0 + 1 := IntWalk.i64_in _ (by omega)
  refine ⟨e, fun i => ?_⟩
  rw [getD_set, e]
  split
  · omega
  · have := h i; omega

theorem OnceInv.left {n : Nat} {os : List Int} {bs : List Bool} {ls ts : List (Int × Int)} (h : OnceInv n os bs ls ts) : ls.length ≤ n ∧ bs.count false = n - ls.length := by
  have h1 := h.cnt
  have h2 := h.bl
  have h3 := count_both bs
  omega
theorem OP.leftI {W0 : World} {p : Nat} {K : List Nat} {kn : List (Nat × Obj)} {lv tv : Value} {ls ts : List (Int × Int)} {w : World} {os : List Int} {bs : List Bool} (h : OP W0 p K kn lv ls tv ts w os bs) {m : Nat} {told : List (Int × Int)} (hI : OnceInv m os bs ls told) (l : Nat) (hl : ls.length = l) :
    Calls Try.prog 54 #[.pointer (some ⟨p, 0, none⟩)] w fun e w' => e = .returned (.int .i64 ((m : Int) - (l : Int))) ∧ OP W0 p K kn lv ls tv ts w' os bs := by
  have hL := hI.left
  refine h.left.mono ?_
  rintro e w' ⟨rfl, h2⟩
  refine ⟨ret_i ?_, h2⟩
  rw [hL.2]; omega

set_option maxRecDepth 100000 in
set_option maxHeartbeats 3000000 in
theorem once10 (W0 : World) (many : Int) (v0 : Value) (xs : List Int) (hv : RdI W0 .i64 v0 xs) :
    Calls Try.prog 10 #[.int .i64 many, v0] W0 fun o w' => o = .returned (.bool true) ∧ Keep [] W0 w' := by
  obtain ⟨a0, cap0, rfl, hc1, hc2⟩ := hv.1.len
  simp only [List.length_map] at hc1 ⊢
  unfold maxLen at hc2
  go_enter Try.func10, Try.ntmps10
  go_wp2_with fail
  refine (awake10 W0).mono ?_
  rintro _ w1 ⟨rfl, hk1⟩
  have hs1 := hk1.size
  cases hok : okMany many with
  | false =>
    go_wp2_with fail
    refine (aNew_no many hok w1).mono ?_
    rintro _ _ ⟨rfl, rfl⟩
    clear hok hv
    generalize xs.length = n at *
    go_wp2
    go_ret
    exact ⟨rfl, hk1⟩
  | true =>
    have hm : 1 ≤ many ∧ many ≤ 8 := by simpa [okMany] using hok
    clear hok
    obtain ⟨m, rfl⟩ := Int.eq_ofNat_of_zero_le (a := many) (by omega)
    have m1 : 1 ≤ m := by omega
    have m8 : m ≤ 8 := by omega
    clear hm
    go_wp2_with fail
    refine (aNew_ok m m1 m8 w1 (List.range W0.heap.size) (by simp; omega)).mono ?_
    rintro _ w2 ⟨rfl, hP2, hk2, hs2⟩
    obtain ⟨p, hp⟩ : ∃ p, p = w1.heap.size + 2 := ⟨_, rfl⟩
    rw [← hp] at hP2 ⊢
    have hA0 : OP W0 p (List.range W0.heap.size ++ ((Value.slice none 0 0).ownBlock.toList ++ (Value.slice none 0 0).ownBlock.toList)) [] (.slice none 0 0) [] (.slice none 0 0) [] w2 _ _ :=
      ⟨hP2.addL (fun x hx => .inl (by simpa [Value.ownBlock] using hx)), by simp [Value.ownBlock]; omega, RowT.nil _ _, RowT.nil _ _, by simp, hk1.trans hk2, fun x hx => by simp; exact .inl hx, by simp [Value.ownBlock], by simp [Value.ownBlock], by simp [Value.ownBlock]⟩
    clear hP2 hp hs2 hk1 hk2 hs1
    by_cases h120 : xs.length ≤ 120
    · go_wp2_with fail
      go_loopg [8, 9, 10] xs.length (fun gn lv tv i wr => ∃ (k : Nat) (os : List Int) (bs : List Bool) (ls ts : List (Int × Int)), i = .int .i64 k ∧ k ≤ xs.length ∧ gn = xs.length - k ∧ ts.length ≤ k ∧ fewB os k ∧ OnceInv m os bs ls ts ∧ OP W0 p (List.range W0.heap.size ++ (lv.ownBlock.toList ++ tv.ownBlock.toList)) [] lv ls tv ts wr os bs)
      case atStart => exact ⟨0, _, _, [], [], rfl, by omega, by omega, by simp, fewB.start m, OnceInv.start m, hA0⟩
      case round =>
        obtain ⟨k, os, bs, ls, ts, rfl, hkn, rfl, htk, hfew, hI, hA⟩ := hrel
        clear hA0
        have hlen := hA.pp.len
        have hos := hI.ol
        have hbl := hI.bl
        have hcnt := hI.cnt
        have hboth := count_both bs
        have hls8 : ls.length ≤ 8 := by omega
        by_cases hlt : k < xs.length
        · obtain ⟨b, off, cap', hveq, hc3, hc4, hcells⟩ := (hv.keep hA.kp (by simp)).1.pos (by simpa using (by omega : 0 < xs.length))
          simp only [Value.slice.injEq, true_and, List.length_map] at hveq
          obtain ⟨rfl, rfl⟩ := hveq
          have hxk := hcells k (.int .i64 xs[k]) (by simp [List.getElem?_eq_getElem hlt])
          have wx := i64_bd (hv.2 _ (List.getElem_mem hlt))
          generalize xs[k] = x at hxk wx
          obtain ⟨la, lc, rfl⟩ := owns_slice hA.rl
          obtain ⟨ta, tc, rfl⟩ := owns_slice hA.rt
          by_cases hC : 0 ≤ x ∧ 0 < ls.length ∧ x % 3 = 0
          · obtain ⟨hx0, hl0, hx3⟩ := hC
            obtain ⟨q, rfl⟩ := Int.eq_ofNat_of_zero_le hx0
            have hmod : q % ls.length < ls.length := Nat.mod_lt _ hl0
            obtain ⟨⟨xa, xt⟩, hti⟩ : ∃ t, ls[q % ls.length]? = some t := ⟨_, List.getElem?_eq_getElem hmod⟩
            obtain ⟨g, cap2, hveq2, hg1, hg2, hg3, hg4, hg5, hg6⟩ := hA.rl.get hti
            simp only [Value.slice.injEq, true_and] at hveq2
            obtain ⟨rfl, rfl⟩ := hveq2
            have t1 : ((q : Int)).tmod (ls.length : Int) = ((q % ls.length : Nat) : Int) := by rw [Int.tmod_eq_emod_of_nonneg (by omega)]; rfl
            have d2 : (ls.length : Int) ≠ 0 := by omega
            have d3 : ((ls.length : Int) == 0) = false := beq_eq_false_iff_ne.2 d2
            have d4 : ((ls.length : Int) = 0) = False := eq_false d2
            obtain ⟨o1, o2, hI2⟩ := hI.back hti
            have hA3 := hA.alloc #[.int .i64 xa, .int .i64 xt] 93
            generalize hq : q % ls.length = r at *
            have HQ := Lib.hid hq
            have HI := Lib.hid hI2
            clear hq hv hcells hI hI2 hti hcnt hos hbl hboth hlen
            generalize hl : ls.length = ll at *
            have HL := Lib.hid hl
            clear hl
            go_wp2_with fail
            generalize hs : wr.heap.size = bo at *
            generalize wr.alloc (.cells #[.int .i64 xa, .int .i64 xt] 93) = w4 at *
            refine (hA3.backY xa xt o1).mono ?_
            rintro _ w5 ⟨rfl, hA5⟩
            obtain ⟨e0, e1⟩ := hA5.cells (.head _)
            clear hA3 hA
            go_wp2_with fail
            refine (hA5.backN xa xt o2).mono ?_
            rintro _ w6 ⟨rfl, hA6⟩
            obtain ⟨e0, e1⟩ := hA6.cells (.head _)
            clear hA5
            go_wp2_with fail
            refine (hA6.lives xa xt).mono ?_
            rw [o2]
            rintro _ w7 ⟨rfl, hA7⟩
            clear hA6 o1 o2
            have hA8 := hA7.drop (kn' := []) (by simp)
            have s1 : IntKind.i64.wrap ((r : Int) + 1) = (r : Int) + 1 := IntWalk.i64_in _ (by omega)
            have s2 : ((r : Int) + 1).toNat = r + 1 := by omega
            have s3 : (0 : Int) ≤ (r : Int) + 1 := by omega
            clear hA7
            go_upto_region 14 with fail
            go_cut [8] from 39 to 153 (fun s8 wx => ∃ va vc K', s8 = .slice va (ll - 1) vc ∧ OP W0 p K' [] s8 (ls.take r ++ ls.drop (r + 1)) (.slice ta ts.length tc) ts wx os (bs.set (xa - 1).toNat false))
            case first =>
              by_cases hcap : lc = r + 1
              · subst hcap
                obtain rfl : ll = r + 1 := by omega
                have s4 : (r : Int) ≤ (r : Int) + 1 := by omega
                obtain ⟨va, vb, w8, vc, vd, w9, q1, q2, hA9⟩ := hA8.cut (k := r) (by have := HL.out; omega) (by have := HL.out; omega) ⟨g, 0, none⟩ (r + 1) 0 (.inl (by have := HL.out; omega))
                rw [HL.out] at q2 hA9
                simp only [Nat.sub_self, Nat.add_sub_cancel] at q2 hA9
                clear hA8
                go_region_law (first | refine step_append_eq rfl _ _ _ rfl rfl rfl q1 ?_ | refine step_append_eq rfl _ _ _ rfl rfl rfl q2 ?_)
                all_goals
                  go_wp2_with fail
                  go_meet
                  exact ⟨_, _, _, rfl, hA9⟩
              · obtain ⟨va, vb, w8, vc, vd, w9, q1, q2, hA9⟩ := hA8.cut (k := r) (by have := HL.out; omega) (by have := HL.out; omega) ⟨g, (r + 1) * 2, none⟩ lc (lc - (r + 1)) (.inr rfl)
                rw [HL.out] at q2 hA9
                have s4 : (r : Int) ≤ (lc : Int) := by omega
                have s5 : (r : Int) + 1 ≤ (ll : Int) := by omega
                have s6 : (ll : Int) ≤ (lc : Int) := by omega
                clear hA8
                go_region_law (first | refine step_append_eq rfl _ _ _ rfl rfl rfl q1 ?_ | refine step_append_eq rfl _ _ _ rfl rfl rfl q2 ?_)
                all_goals
                  go_wp2_with fail
                  go_meet
                  exact ⟨_, _, _, rfl, hA9⟩
            case rest =>
              obtain ⟨va, vc, K', rfl, hA9⟩ := hcut
              have hlen2 : (ls.take r ++ ls.drop (r + 1)).length = ll - 1 := by have := HL.out; simp; omega
              have hl28 : ll - 1 ≤ 8 := by omega
              generalize ll - 1 = l2 at *
              go_wp2_with fail
              refine (hA9.leftI HI.out l2 hlen2).mono ?_
              rintro _ w10 ⟨rfl, hA10⟩
              have HF := Lib.hid hfew
              have HA := Lib.hid hA10
              clear hA8 hA9 hA10 hlen2 hfew
              go_wp2
              go_roundg (xs.length - (k + 1))
              case measure => omega
              case rel => exact ⟨k + 1, _, _, _, _, by go_num, by omega, rfl, by omega, HF.out.mono (by omega), HI.out, HA.out.loop⟩
          · go_upto_region 9 with fail
            go_cut [62] from 39 to 153 (fun s62 wx => s62 = .bool false ∧ wx = wr)
            case first =>
              have hcond : x < 0 ∨ (0 ≤ x ∧ ls.length = 0) ∨ (0 ≤ x ∧ 0 < ls.length ∧ x % 3 ≠ 0) := by omega
              clear hv hcells hI hA hcnt hos hbl hboth hlen hfew hC
              generalize ls.length = ll at *
              rcases hcond with h1 | ⟨h1, rfl⟩ | ⟨h1, h2, h3⟩
              rotate_left 2
              have h4 : (x % 3 == 0) = false := by simpa using h3
              clear h3
              all_goals
                go_wp2_with fail
                go_meet
                exact ⟨rfl, rfl⟩
            case rest =>
              obtain ⟨rfl, rfl⟩ := hcut
              clear hv hcells hC hxk
              cases hb : bestK os bs m with
              | none =>
                have hll := hI.take_none hb
                go_wp2_with fail
                refine (hA.takeN (by rw [hos]; exact hb)).mono ?_
                rintro _ w5 ⟨rfl, hA5⟩
                have hA6 := (hA5.alloc #[.int .i64 0, .int .i64 0] 93).drop (kn' := []) (by simp)
                have HF := Lib.hid hfew
                have HI := Lib.hid hI
                obtain ⟨ll, hll2⟩ : ∃ ll, ls.length = ll := ⟨_, rfl⟩
                have hlm : ll = m := by omega
                rw [hll2] at hA6 ⊢
                subst hlm
                clear hA hA5 hb hfew hI hcnt hos hbl hboth hlen hll
                go_wp2_with fail
                refine (hA6.leftI HI.out _ hll2).mono ?_
                rintro _ w10 ⟨rfl, hA10⟩
                have HA := Lib.hid hA10
                clear hA6 hA10 hll2
                go_wp2
                go_roundg (xs.length - (k + 1))
                case measure => omega
                case rel => exact ⟨k + 1, _, _, _, _, by go_num, by omega, rfl, by omega, HF.out.mono (by omega), HI.out, HA.out.loop⟩
              | some j =>
                obtain ⟨hy, hfew2⟩ := fewB_inc hfew (by omega) j
                obtain ⟨c1, c2, c3, hI2⟩ := hI.take_some hb (y := inc (os.getD j 0)) (by omega)
                have hjm := (bestK_lt hb).1
                go_wp2_with fail
                refine (hA.takeY (by rw [hos]; exact hb)).mono ?_
                rintro _ w5 ⟨rfl, hA5⟩
                have hA6 := hA5.alloc #[.int .i64 ((j : Int) + 1), .int .i64 (inc (os.getD j 0))] 93
                have ltl := hA5.ltl
                have ltt := hA5.ltt
                generalize inc (os.getD j 0) = y at *
                have HF := Lib.hid hfew2
                have HI := Lib.hid hI2
                have HC2 := Lib.hid c2
                have HC3 := Lib.hid c3
                obtain ⟨ll, hll2⟩ : ∃ ll, ls.length = ll := ⟨_, rfl⟩
                obtain ⟨tl, htl2⟩ : ∃ tl, ts.length = tl := ⟨_, rfl⟩
                have htl3 : tl ≤ k := by omega
                have hll3 : ll ≤ 8 := by omega
                have hll4 : ll < m := by omega
                rw [hll2, htl2] at hA6
                rw [hll2] at ltl
                rw [htl2] at ltt
                rw [hll2, htl2]
                have HLL := Lib.hid hll2
                have HTL := Lib.hid htl2
                clear hA hA5 hb hfew hI hcnt hos hbl hboth hlen hy hfew2 c1 c2 c3 hI2 hll2 htl2
                go_wp2_with fail
                generalize hbo : w5.heap.size = bo at *
                generalize hw6 : w5.alloc (.cells #[.int .i64 ((j : Int) + 1), .int .i64 y] 93) = w6 at *
                clear hbo hw6
                go_loopg [15] tl (fun gn i wq => ∃ q : Nat, i = .int .i64 q ∧ q ≤ tl ∧ gn = tl - q ∧ OP W0 p (List.range W0.heap.size ++ ((Value.slice la ll lc).ownBlock.toList ++ (Value.slice ta tl tc).ownBlock.toList) ++ [bo]) [(bo, .cells #[.int .i64 ((j : Int) + 1), .int .i64 y] 93 (0, 0))] (.slice la ll lc) ls (.slice ta tl tc) ts wq (os.set j y) (bs.set j true))
                case atStart => exact ⟨0, rfl, by omega, by omega, hA6⟩
                case round =>
                  obtain ⟨q, rfl, hq1, rfl, hAq⟩ := hrel
                  clear hA6
                  by_cases hqt : q < tl
                  · obtain ⟨⟨xa, xt⟩, hti⟩ : ∃ t, ts[q]? = some t := ⟨_, List.getElem?_eq_getElem (by rw [HTL.out]; exact hqt)⟩
                    obtain ⟨g, cap2, hveq2, hg1, hg2, hg3, hg4, hg5, hg6⟩ := hAq.rt.get hti
                    simp only [Value.slice.injEq, HTL.out, true_and] at hveq2
                    obtain ⟨rfl, rfl⟩ := hveq2
                    obtain ⟨e0, e1⟩ := hAq.cells (.head _)
                    have hne : decide (xa = (j : Int) + 1 ∧ xt = y) = false := by simpa using HC2.out _ (List.mem_of_getElem? hti)
                    clear hti
                    go_wp2_with fail
                    go_region
                    all_goals
                      go_wp2_with fail
                      go_roundg (tl - (q + 1))
                      case measure => omega
                      case rel => exact ⟨q + 1, by go_num, by omega, rfl, hAq.drew⟩
                  · obtain rfl : q = tl := by omega
                    go_wp2_with fail
                    go_loopg [16] ll (fun gn i wq => ∃ q2 : Nat, i = .int .i64 q2 ∧ q2 ≤ ll ∧ gn = ll - q2 ∧ OP W0 p (List.range W0.heap.size ++ ((Value.slice la ll lc).ownBlock.toList ++ (Value.slice ta q tc).ownBlock.toList) ++ [bo]) [(bo, .cells #[.int .i64 ((j : Int) + 1), .int .i64 y] 93 (0, 0))] (.slice la ll lc) ls (.slice ta q tc) ts wq (os.set j y) (bs.set j true))
                    case atStart => exact ⟨0, rfl, by omega, by omega, hAq⟩
                    case round =>
                      obtain ⟨q2, rfl, hq2, rfl, hAr⟩ := hrel
                      clear hAq
                      by_cases hqt2 : q2 < ll
                      · obtain ⟨⟨xa, xt⟩, hti⟩ : ∃ t, ls[q2]? = some t := ⟨_, List.getElem?_eq_getElem (by rw [HLL.out]; exact hqt2)⟩
                        obtain ⟨g, cap2, hveq2, hg1, hg2, hg3, hg4, hg5, hg6⟩ := hAr.rl.get hti
                        simp only [Value.slice.injEq, HLL.out, true_and] at hveq2
                        obtain ⟨rfl, rfl⟩ := hveq2
                        obtain ⟨e0, e1⟩ := hAr.cells (.head _)
                        have hne : (xa == (j : Int) + 1) = false := by simpa using HC3.out _ (List.mem_of_getElem? hti)
                        clear hti
                        go_wp2_with fail
                        go_region
                        all_goals
                          go_wp2_with fail
                          go_roundg (ll - (q2 + 1))
                          case measure => omega
                          case rel => exact ⟨q2 + 1, by go_num, by omega, rfl, hAr.drew⟩
                      · obtain rfl : q2 = ll := by omega
                        obtain ⟨e0, e1⟩ := hAr.cells (.head _)
                        have hB1 := hAr.alloc #[.int .i64 ((j : Int) + 1), .int .i64 y] 93
                        obtain ⟨va, vc, w8, r1, hB2⟩ := hB1.pushT ((j : Int) + 1, y) (c := wr.heap.size) (hB1.ob (.head _)) (by rw [HTL.out]; omega) (by
                          intro z hz e
                          have h1 := hAr.ltt _ e
                          have h2 := ltt _ e
                          simp at hz
                          rcases hz with rfl | rfl
                          · simp at h1
                          · simp at h2)
                        rw [HTL.out] at r1 hB2
                        clear hB1
                        have hB3 := hB2.drop (kn' := [(bo, .cells #[.int .i64 ((j : Int) + 1), .int .i64 y] 93 (0, 0))]) (by simp)
                        obtain ⟨f0, f1⟩ := hB3.cells (.head _)
                        have hB4 := hB3.alloc #[.int .i64 ((j : Int) + 1), .int .i64 y] 93
                        obtain ⟨va2, vc2, w9, r2, hB5⟩ := hB4.pushL ((j : Int) + 1, y) (c := w8.heap.size) (hB4.ob (.head _)) (by rw [HLL.out]; omega) (by
                          intro z hz e
                          have h1 := hB3.ltl _ e
                          have h2 := ltl _ e
                          simp at hz
                          rcases hz with rfl | rfl
                          · simp at h1
                          · simp at h2)
                        rw [HLL.out] at r2 hB5
                        clear hB2 hB3 hB4 hAr
                        go_wp2_with (first | (at_builtin; refine wpList_append_eq (o := ⟨some 142, _, _, _, _, _⟩) rfl _ _ _ rfl rfl rfl r1 ?_) | (at_builtin; refine wpList_append_eq (o := ⟨some 146, _, _, _, _, _⟩) rfl _ _ _ rfl rfl rfl r2 ?_))
                        refine (hB5.leftI HI.out (q2 + 1) (by simp [HLL.out])).mono ?_
                        rintro _ w10 ⟨rfl, hA10⟩
                        have HA := Lib.hid hA10
                        clear hA10 r1 r2 hB5
                        go_wp2
                        go_roundg (xs.length - (k + 1))
                        case measure => omega
                        case rel => exact ⟨k + 1, _, _, _, _, by go_num, by omega, rfl, by have := HTL.out; simp; omega, HF.out, HI.out, HA.out.loop⟩
        · obtain rfl : k = xs.length := by omega
          obtain ⟨la, lc, rfl⟩ := owns_slice hA.rl
          obtain ⟨ta, tc, rfl⟩ := owns_slice hA.rt
          have HI := Lib.hid hI
          obtain ⟨ll, hll2⟩ : ∃ ll, ls.length = ll := ⟨_, rfl⟩
          rw [hll2] at hA hls8 ⊢
          have HLL := Lib.hid hll2
          clear hv hfew hI hcnt hos hbl hboth hlen hll2
          generalize hxl : xs.length = n at *
          go_wp2_with fail
          go_loopg [17] ll (fun gn i wq => ∃ q2 : Nat, i = .int .i64 q2 ∧ q2 ≤ ll ∧ gn = ll - q2 ∧ OP W0 p (List.range W0.heap.size ++ ((Value.slice la ll lc).ownBlock.toList ++ (Value.slice ta ts.length tc).ownBlock.toList)) [] (.slice la ll lc) ls (.slice ta ts.length tc) ts wq os bs)
          case atStart => exact ⟨0, rfl, by omega, by omega, hA⟩
          case round =>
            obtain ⟨q2, rfl, hq2, rfl, hAr⟩ := hrel
            clear hA
            by_cases hqt2 : q2 < ll
            · obtain ⟨⟨xa, xt⟩, hti⟩ : ∃ t, ls[q2]? = some t := ⟨_, List.getElem?_eq_getElem (by rw [HLL.out]; exact hqt2)⟩
              obtain ⟨g, cap2, hveq2, hg1, hg2, hg3, hg4, hg5, hg6⟩ := hAr.rl.get hti
              simp only [Value.slice.injEq, HLL.out, true_and] at hveq2
              obtain ⟨rfl, rfl⟩ := hveq2
              have hlv := HI.out.lv _ (List.mem_of_getElem? hti)
              simp only at hlv
              have hL := hAr.lives xa xt
              rw [hlv] at hL
              clear hti hlv
              go_wp2_with fail
              refine hL.mono ?_
              rintro _ w10 ⟨rfl, hA10⟩
              clear hL
              have HA := Lib.hid hA10
              clear hA10 hAr
              go_wp2
              go_roundg (ll - (q2 + 1))
              case measure => omega
              case rel => exact ⟨q2 + 1, by go_num, by omega, rfl, HA.out⟩
            · obtain rfl : q2 = ll := by omega
              have hkE := hAr.kp
              clear hAr
              go_wp2
              go_ret
              exact ⟨rfl, hkE⟩
    · have hkE := hA0.kp
      clear hA0 hv
      have hgt : 120 < xs.length := by omega
      clear h120
      generalize xs.length = n at *
      go_wp2
      go_ret
      exact ⟨rfl, hkE⟩
end Go.Proofs.Ytfljhfggjbkomaa
