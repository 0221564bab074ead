import Derived.Test.YtfljhfggjbkomaaUs
import Derived.Deep.RegionHeld3
import Derived.Deep.DrawnRows
namespace Go.Proofs.Ytfljhfggjbkomaa
open Go.RowKit
set_option linter.unusedSimpArgs false
set_option linter.unusedVariables false
attribute [local go_sem] ob_alloc ob_drew ob_drewN ob_setCell ob_setBlock objSet_cells obMap_map obClock_map isMapI_map keyI_mk findI_nil findI_cons lookRes_some lookRes_none lookRes_some' lookRes_none' setBlock_alloc mapPut
attribute [local go_sem ↓] Go.wp_at_zero Go.wp_at_succ eql27l neq27l

set_option maxRecDepth 100000 in
set_option maxHeartbeats 8000000 in
theorem plays21 (W0 : World) (v0 : Value) (xs : List (List Value)) (hv : RdA W0 3 v0 xs) (hx : ∀ c ∈ xs, GCells W0 [.int .i64, .int .i64, .int .i64] c) :
    Calls Try.prog 3 #[v0] W0 fun o w' => o = .returned (.bool true) ∧ Keep [] W0 w' := by
  obtain ⟨a0, cap0, rfl, hc1, hc2⟩ := hv.len
  unfold maxLen at hc2
  have hmf : ∀ (fn : Fn) (first cap : Array Value) (w : World), (Instr.makeFunc fn first cap).run Try.prog w = .ok (.func fn first cap) w := fun _ _ _ _ => rfl
  go_enter Try.func3, Try.ntmps3
  go_wp2_with fail
  refine (awake21 W0 W0 (Keep.refl _ _)).mono ?_
  rintro _ w1 ⟨rfl, hk1⟩
  have hU := (JS.begin hk1 (.slice a0 (xs.length : Nat) cap0) (ops3 xs) xs.length).alloc #[.int .i64 0] 3
  simp only [World.size_alloc, lgO, bdO] at hU
  generalize hn : xs.length = n at *
  have HU := Lib.hid hU
  clear hU hk1
  go_wp2_with fail
  refine (uNew w1).mono ?_
  rintro _ w2 ⟨rfl, rfl⟩
  simp only [lgO]
  go_wp2_with fail
  have hU := HU.out
  clear HU
  generalize ((((w1.alloc (.cells #[.slice none 0 0] 115)).alloc (.cells #[.int .i64 0, .int .i64 0, .int .i64 0, .int .i64 0, .slice none 0 0] 30)).alloc (.cells #[.pointer (some ⟨w1.heap.size + 1, 0, none⟩)] 26)).alloc (.cells #[.int .i64 0, .int .i64 0, .int .i64 0, .int .i64 0, .slice none 0 0, .slice none 0 0, .slice a0 n cap0] 34)).alloc (.cells #[.int .i64 0] 3) = w4 at *
  obtain ⟨kc, hkc⟩ : ∃ kc, [(w1.heap.size + 1 + 1 + 1 + 1, Obj.cells #[.int .i64 0] 3 (0, 0)), (w1.heap.size + 1 + 1, vB (w1.heap.size + 1))] = kc := ⟨_, rfl⟩
  have hpi : (w1.heap.size + 1 + 1 + 1 + 1, vI' 0) ∈ kc := by rw [← hkc]; exact .head _
  have hpb : (w1.heap.size + 1 + 1, vB (w1.heap.size + 1)) ∈ kc := by rw [← hkc]; exact .tail _ (.head _)
  rw [hkc] at hU
  clear hkc
  generalize w1.heap.size + 1 + 1 + 1 + 1 = pi0 at *
  generalize w1.heap.size + 1 + 1 + 1 = r at *
  generalize w1.heap.size + 1 + 1 = pb at *
  generalize w1.heap.size + 1 = bo at *
  generalize w1.heap.size = lg at *
  have HU := Lib.hid (And.intro hU (And.intro hpi hpb))
  clear hU hpi hpb
  go_loopg [7] n (fun gn s7 wr => ∃ (k : Nat) (ls : List Nat) (kc : List (Nat × Obj)) (pi : Nat), s7 = .pointer (some ⟨pi, 0, none⟩) ∧ k ≤ n ∧ k ≤ 60 ∧ gn = n - k ∧ JS W0 wr bo lg r (.slice a0 n cap0) kc (ops3 xs) n ls (2 * k) ∧ (pi, vI' k) ∈ kc ∧ (pb, vB bo) ∈ kc)
  case atStart => exact ⟨0, _, _, _, rfl, by omega, by omega, by omega, HU.out.1, HU.out.2.1, HU.out.2.2⟩
  case round =>
    clear HU
    obtain ⟨k, ls, kc, pi, rfl, hkn, hk60, rfl, hU, hpi, hpb⟩ := hrel
    have ci := cell_of_ob (hU.obk hpi) 0
    have li := ob_lt (hU.obk hpi)
    simp only [vI', List.getElem?_toArray, List.getElem?_cons_zero] at ci
    by_cases hlt : k < n
    · by_cases hl60 : k < 60
      · obtain ⟨bb, off, cap', hveq, hbb, hXA⟩ := args3 hv hx (by omega)
        simp only [Value.slice.injEq, hn, true_and] at hveq
        obtain ⟨rfl, rfl⟩ := hveq
        rw [hn] at hXA
        obtain ⟨l0, l1, l2⟩ := hXA wr hU.kp k (by omega)
        obtain ⟨⟨c, a, f⟩, ho⟩ : ∃ o, ops3 xs k = o := ⟨_, rfl⟩
        rw [ho] at l0 l1 l2
        simp only at l0 l1 l2
        have hA := hU.alloc #[.int .i64 c, .int .i64 a, .int .i64 f] 36
        have HH := Lib.hid (And.intro hA (And.intro hpi (And.intro hpb (And.intro hXA (And.intro ho (And.intro hc1 hc2))))))
        clear hv hx hU hpi hpb hXA hA ho hn hc1 hc2
        go_upto_region 11 with fail
        obtain ⟨hA, hpi, hpb, hXA, ho, hc1, hc2⟩ := HH.out
        generalize wr.heap.size = po at *
        generalize wr.alloc (.cells #[.int .i64 c, .int .i64 a, .int .i64 f] 36) = w5 at *
        clear HH l0 l1 l2 ci li
        have hpo : (po, vO (ops3 xs k)) ∈ (po, Obj.cells #[.int .i64 c, .int .i64 a, .int .i64 f] 36 (0, 0)) :: kc := by rw [ho]; exact .head _
        have hpi := List.mem_cons_of_mem (po, Obj.cells #[.int .i64 c, .int .i64 a, .int .i64 f] 36 (0, 0)) hpi
        have hpb := List.mem_cons_of_mem (po, Obj.cells #[.int .i64 c, .int .i64 a, .int .i64 f] 36 (0, 0)) hpb
        generalize (po, Obj.cells #[.int .i64 c, .int .i64 a, .int .i64 f] 36 (0, 0)) :: kc = kc at *
        have hff : (ops3 xs k).fail = f := by rw [ho]
        have HO := Lib.hid ho
        have hcall := hA.do1 (by omega) k hpb hpo hpi
        rw [hff] at hcall
        have hn' : n ≤ maxLen := by unfold maxLen; omega
        have HH := Lib.hid (And.intro hpi (And.intro hpb (And.intro hpo (And.intro hXA (And.intro hn' (And.intro hk60 hkn))))))
        clear hA hpi hpb hpo hXA hc1 hc2 hn' hkn hk60
        go_wp2_with fail
        refine hcall.mono ?_
        rintro _ w6 ⟨rfl, hM⟩
        have ci := cell_of_ob (hM.obk HH.out.1) 0
        have li := ob_lt (hM.obk HH.out.1)
        simp only [vI', List.getElem?_toArray, List.getElem?_cons_zero] at ci
        have hcall2 := hM.do2 (by omega) (by omega) HH.out.2.2.2.2.1 HH.out.2.2.2.1
        rw [hff] at hcall2
        clear hcall hM
        go_wp2_with fail
        refine hcall2.mono ?_
        rintro _ w7 ⟨rfl, ls7, hJ⟩
        clear hcall2 ci li
        have d0 : w7.cell? ⟨po, 0, none⟩ = some (.int .i64 c) := by
          have := cell_of_ob (hJ.obk HH.out.2.2.1) 0
          rw [HO.out] at this
          exact this
        generalize hm : 2 * k + 2 = m at hJ
        have hmk : m ≤ 122 := by omega
        clear ho hff
        have HJ := Lib.hid hJ
        clear hJ
        by_cases h4 : c = 4
        · subst h4
          have hcall3 := HJ.out.roll1 (by omega)
          go_wp2_with fail
          refine hcall3.mono ?_
          rintro _ w8 ⟨rfl, hR⟩
          have hcall4 := hR.roll2 (by omega) HH.out.2.2.2.2.1 HH.out.2.2.2.1
          clear hcall3 HJ hR d0
          go_wp2_with fail
          refine hcall4.mono ?_
          rintro _ wx ⟨rfl, hJ⟩
          have d0 : wx.cell? ⟨po, 0, none⟩ = some (.int .i64 4) := by
            have := cell_of_ob (hJ.obk HH.out.2.2.1) 0
            rw [HO.out] at this
            exact this
          have HJ := Lib.hid hJ
          clear hcall4 hJ
          go_upto_region 21 with fail
          clear d0
          obtain ⟨x0, x1, x2, x3, la, lc, bv, rv, EE, b0, b1, b2, b3, b4, r0, r1, r2, r3, r4, r5, rb, rr, hEE, lb, lr, hls⟩ := HJ.out.facts
          have cp : _ := cell_of_ob (HJ.out.obk HH.out.2.1) 0
          have lp := ob_lt (HJ.out.obk HH.out.2.1)
          simp only [vB, List.getElem?_toArray, List.getElem?_cons_zero] at cp
          have HS := Lib.hid (fun nq => rSame (wx.drewN nq) W0.heap.size bv rv EE (rb.keep ((Keep.refl [] _).drewN nq) (by simp)) (rr.keep ((Keep.refl [] _).drewN nq) (by simp)) (by omega))
          have HQ := Lib.hid (fun nq => (HJ.out.new ((Keep.refl [] wx).drewN nq)).len)
          clear rb rr hEE
          go_wp2_with fail
          go_quiet ((go_at_call 24; exact Calls.quiet_of (HS.out _)))
          go_wp2_with fail
          revert nq
          intro n1
          go_quiet ((go_at_call 25; exact (HQ.out _).mono fun _ _ ⟨g1, g2⟩ => ⟨g1, _, g2⟩))
          clear b0 b1 b2 b3 b4 r0 r1 r2 r3 r4 r5 cp HS HQ
          have HJ := Lib.hid (HJ.out.new ((Keep.refl [] wx).drewN (n1 + nq)))
          clear lb lr lp
          rw [World.drewN_drewN]
          generalize wx.drewN (n1 + nq) = w9 at *
          have hpi := Lib.hid HH.out.1
          have ci := cell_of_ob (HJ.out.obk hpi.out) 0
          have li := ob_lt (HJ.out.obk hpi.out)
          simp only [vI', List.getElem?_toArray, List.getElem?_cons_zero] at ci
          have H7 := Lib.hid (HJ.out.alloc #[.int .i64 ((k : Int) + 1)] 3)
          have hk61 : (k : Int) + 1 ≤ 61 := by omega
          go_wp2_with fail
          go_roundg (n - (k + 1))
          case measure => omega
          case rel =>
            have h9 : (vI' ((k : Int) + 1)) = vI' ((k + 1 : Nat) : Int) := by rw [show ((k + 1 : Nat) : Int) = (k : Int) + 1 by omega]
            exact ⟨k + 1, [], _, _, rfl, by omega, by omega, rfl, hm ▸ H7.out, by rw [← h9]; exact .head _, List.mem_cons_of_mem _ HH.out.2.1⟩
        · by_cases h5 : c = 5
          · subst h5
            obtain ⟨la, lc, r4, lr, hrr⟩ := HJ.out.cellL
            have HC : Hid (Calls Try.prog 23 #[.pointer (some ⟨lg, 0, none⟩)] w7.drew fun e w' => e = .returned (.int .i64 (ls7.length : Nat)) ∧ JK W0 w' bo lg r (.slice (some ⟨bb, off, none⟩) n cap0) kc ls7 m ∧ w'.cell? ⟨r, 4, none⟩ = some (.slice la (ls7.length : Nat) lc)) := Lib.hid ((HJ.out.new (Keep.refl _ _).drew).keep1.mono (fun e w' ⟨g1, g2, g3⟩ => ⟨g1, g2, hrr w' g3⟩))
            clear HJ hrr
            go_upto_region 18 with fail
            go_region_held3 (fun w' => w'.cell? ⟨r, 4, none⟩ = some (.slice la (ls7.length : Nat) lc)) (first | exact r4 | exact m4 | go_keep)
              (first | (go_at_call 23; refine HC.out.mono ?_; rintro _ w8 ⟨rfl, hK, m4⟩))
            all_goals
              obtain ⟨hJ, hfz, xx, hxx⟩ := hK.store (O := ops3 xs) (n := n)
              have HJ := Lib.hid hJ
              clear hK hJ m4 r4 d0 HC
              go_upto_region 21 with fail
              clear hfz hxx lr
              generalize World.setCell _ _ _ = wx at *
              obtain ⟨x0, x1, x2, x3, la, lc, bv, rv, EE, b0, b1, b2, b3, b4, r0, r1, r2, r3, r4, r5, rb, rr, hEE, lb, lr, hls⟩ := HJ.out.facts
              have cp : _ := cell_of_ob (HJ.out.obk HH.out.2.1) 0
              have lp := ob_lt (HJ.out.obk HH.out.2.1)
              simp only [vB, List.getElem?_toArray, List.getElem?_cons_zero] at cp
              have HS := Lib.hid (fun nq => rSame (wx.drewN nq) W0.heap.size bv rv EE (rb.keep ((Keep.refl [] _).drewN nq) (by simp)) (rr.keep ((Keep.refl [] _).drewN nq) (by simp)) (by omega))
              have HQ := Lib.hid (fun nq => (HJ.out.new ((Keep.refl [] wx).drewN nq)).len)
              clear rb rr hEE
              go_wp2_with fail
              go_quiet ((go_at_call 24; exact Calls.quiet_of (HS.out _)))
              go_wp2_with fail
              revert nq
              intro n1
              go_quiet ((go_at_call 25; exact (HQ.out _).mono fun _ _ ⟨g1, g2⟩ => ⟨g1, _, g2⟩))
              clear b0 b1 b2 b3 b4 r0 r1 r2 r3 r4 r5 cp HS HQ
              have HJ := Lib.hid (HJ.out.new ((Keep.refl [] wx).drewN (n1 + nq)))
              clear lb lr lp
              rw [World.drewN_drewN]
              generalize wx.drewN (n1 + nq) = w9 at *
              have hpi := Lib.hid HH.out.1
              have ci := cell_of_ob (HJ.out.obk hpi.out) 0
              have li := ob_lt (HJ.out.obk hpi.out)
              simp only [vI', List.getElem?_toArray, List.getElem?_cons_zero] at ci
              have H7 := Lib.hid (HJ.out.alloc #[.int .i64 ((k : Int) + 1)] 3)
              have hk61 : (k : Int) + 1 ≤ 61 := by omega
              go_wp2_with fail
              go_roundg (n - (k + 1))
              case measure => omega
              case rel =>
                have h9 : (vI' ((k : Int) + 1)) = vI' ((k + 1 : Nat) : Int) := by rw [show ((k + 1 : Nat) : Int) = (k : Int) + 1 by omega]
                exact ⟨k + 1, [], _, _, rfl, by omega, by omega, rfl, hm ▸ H7.out, by rw [← h9]; exact .head _, List.mem_cons_of_mem _ HH.out.2.1⟩
          · go_upto_region 21 with fail
            clear d0
            obtain ⟨x0, x1, x2, x3, la, lc, bv, rv, EE, b0, b1, b2, b3, b4, r0, r1, r2, r3, r4, r5, rb, rr, hEE, lb, lr, hls⟩ := HJ.out.facts
            have cp : _ := cell_of_ob (HJ.out.obk HH.out.2.1) 0
            have lp := ob_lt (HJ.out.obk HH.out.2.1)
            simp only [vB, List.getElem?_toArray, List.getElem?_cons_zero] at cp
            have HS := Lib.hid (fun nq => rSame (w7.drewN nq) W0.heap.size bv rv EE (rb.keep ((Keep.refl [] _).drewN nq) (by simp)) (rr.keep ((Keep.refl [] _).drewN nq) (by simp)) (by omega))
            have HQ := Lib.hid (fun nq => (HJ.out.new ((Keep.refl [] w7).drewN nq)).len)
            clear rb rr hEE
            go_wp2_with fail
            go_quiet ((go_at_call 24; exact Calls.quiet_of (HS.out _)))
            go_wp2_with fail
            revert nq
            intro n1
            go_quiet ((go_at_call 25; exact (HQ.out _).mono fun _ _ ⟨g1, g2⟩ => ⟨g1, _, g2⟩))
            clear b0 b1 b2 b3 b4 r0 r1 r2 r3 r4 r5 cp HS HQ
            have HJ := Lib.hid (HJ.out.new ((Keep.refl [] w7).drewN (n1 + nq)))
            clear lb lr lp
            rw [World.drewN_drewN]
            generalize w7.drewN (n1 + nq) = w9 at *
            have hpi := Lib.hid HH.out.1
            have ci := cell_of_ob (HJ.out.obk hpi.out) 0
            have li := ob_lt (HJ.out.obk hpi.out)
            simp only [vI', List.getElem?_toArray, List.getElem?_cons_zero] at ci
            have H7 := Lib.hid (HJ.out.alloc #[.int .i64 ((k : Int) + 1)] 3)
            have hk61 : (k : Int) + 1 ≤ 61 := by omega
            go_wp2_with fail
            go_roundg (n - (k + 1))
            case measure => omega
            case rel =>
              have h9 : (vI' ((k : Int) + 1)) = vI' ((k + 1 : Nat) : Int) := by rw [show ((k + 1 : Nat) : Int) = (k : Int) + 1 by omega]
              exact ⟨k + 1, ls7, _, _, rfl, by omega, by omega, rfl, hm ▸ H7.out, by rw [← h9]; exact .head _, List.mem_cons_of_mem _ HH.out.2.1⟩
      · have HE := Lib.hid hU.kp
        clear hv hx hU hpi hpb
        obtain rfl : k = 60 := by omega
        go_wp2
        go_ret
        exact ⟨rfl, HE.out⟩
    · have HE := Lib.hid hU.kp
      clear hv hx hU hpi hpb
      obtain rfl : k = n := by omega
      go_wp2
      go_ret
      exact ⟨rfl, HE.out⟩
end Go.Proofs.Ytfljhfggjbkomaa
