import Derived.Test.YtfihnnijcaapkaaDoorVl
import Derived.Test.YtfihnnijcaapkaaDoorLibO
import Derived.Deep.RegionHeld3
import Derived.Deep.DrawnRows
import Derived.Deep.CutRange
namespace Go.Proofs.YtfihnnijcaapkaaDoor
open Go.RowKit
set_option linter.unusedSimpArgs false
set_option linter.unusedVariables false
attribute [local go_sem] ob_alloc ob_drew ob_drewN ob_setCell ob_setBlock objSet_cells obMap_map obClock_map isMapI_map keyI_mk findI_nil findI_cons lookRes_some lookRes_none lookRes_some' lookRes_none' setBlock_alloc mapPut
attribute [local go_sem ↓] Go.wp_at_zero Go.wp_at_succ

/-! ### the ops of an argument -/
def dec2 (c : List Value) : Int × Bool := match c with
  | [.int _ a, .bool b] => (a, b)
  | _ => (0, false)
def ops2 (xs : List (List Value)) (j : Nat) : Int × Bool := dec2 (xs.getD j [])
def Arg2 (bb off : Nat) (o : Int × Bool) (j : Nat) (w : World) : Prop :=
  w.cell? ⟨bb, off + j * 2, none⟩ = some (.int .i64 o.1) ∧ w.cell? ⟨bb, off + j * 2 + 1, none⟩ = some (.bool o.2)
theorem args2 {W0 : World} {v0 : Value} {xs : List (List Value)} (hv : RdA W0 2 v0 xs) (hx : ∀ c ∈ xs, GCells W0 [.int .i64, .bool] c) (h0 : 0 < xs.length) :
    ∃ bb off cap, v0 = .slice (some ⟨bb, off, none⟩) xs.length cap ∧ bb < W0.heap.size ∧ ∀ w, Keep [] W0 w → ∀ j, j < xs.length → Arg2 bb off (ops2 xs j) j w := by
  obtain ⟨bb, off, cap, e, hb, _⟩ := hv.2 h0
  refine ⟨bb, off, cap, e, hb, fun w hk j hj => ?_⟩
  obtain ⟨bb', off', cap', e', hb', hc⟩ := (hv.keep hk (by simp)).2 h0
  rw [e] at e'
  simp only [Value.slice.injEq, Option.some.injEq, Addr.mk.injEq, and_true, true_and] at e'
  obtain ⟨⟨rfl, rfl⟩, rfl⟩ := e'
  have hxk : xs[j]? = some (xs[j]'hj) := List.getElem?_eq_getElem _
  obtain ⟨_, hr⟩ := hc j _ hxk
  have hen : ops2 xs j = dec2 (xs[j]'hj) := by unfold ops2; rw [List.getD_eq_getElem?_getD, hxk]; rfl
  obtain ⟨_, _, hxe, ⟨a, rfl, _⟩, _, _, rfl, ⟨b, rfl⟩, rfl⟩ := hx _ (List.getElem_mem hj)
  unfold Arg2
  rw [hen]
  rw [hxe] at hr ⊢
  have h0 := hr 0 _ rfl
  rw [Nat.add_zero] at h0
  exact ⟨h0, hr 1 _ rfl⟩
/-- the set behind the first k ops -/
def opsS (O : Nat → Int × Bool) : Nat → (Nat → Bool)
  | 0 => fun _ => false
  | k + 1 => putS (opsS O k) (O k).1 (O k).2
theorem hasS_put (S : Nat → Bool) (m : Int) : hasS (putS S m true) m = inR m := by
  unfold hasS putS
  by_cases h : inR m = true
  · rw [if_pos h, h]; simp [upS]
  · simp only [Bool.not_eq_true] at h
    rw [h]; rfl
theorem putS_back (S : Nat → Bool) (m : Int) : putS (putS S m true) m (hasS S m) = S := by
  unfold hasS putS
  by_cases h : inR m = true
  · rw [if_pos h, if_pos h, h, Bool.true_and, upS_self]
  · rw [if_neg h, if_neg h]
set_option maxRecDepth 100000 in
set_option maxHeartbeats 4000000 in
theorem out03 (W0 : World) (hT : TabAt W0) (hz : 0 < W0.heap.size) (v0 v1 : Value) (xs : List (List Value)) (ms : List Int) (hv : RdA W0 2 v0 xs) (hx : ∀ c ∈ xs, GCells W0 [.int .i64, .bool] c) (hm : RdI W0 .i64 v1 ms) :
    Calls Tryd.prog 3 #[v0, v1] W0 fun o w' => o = .returned (.bool true) ∧ Keep [] W0 w' := by
  obtain ⟨a0, cap0, rfl, hc1, hc2⟩ := hv.len
  obtain ⟨a1, cap1, rfl, hd1, hd2⟩ := hm.1.len
  unfold maxLen at hc2 hd2
  rw [List.length_map] at hd1
  generalize hn : xs.length = n at *
  have HA := Lib.hid (awake03 W0 W0 (Keep.refl _ _) hT hz)
  have HT := Lib.hid (And.intro hT hz)
  clear hT hz
  go_enter Tryd.func3, Tryd.ntmps3
  go_wp2_with fail
  refine HA.out.mono ?_
  rintro _ w1 ⟨rfl, hk1⟩
  have HS := Lib.hid (SE.begin hk1 HT.out.1 HT.out.2)
  clear hk1 HA HT
  go_wp2_with fail
  have hs := HS.out
  clear HS
  generalize w1.alloc (.cells #[.int .u64 0, .int .u64 0, .int .u64 0, .int .u64 0] 29) = w2 at *
  generalize w1.heap.size = p at *
  have HS := Lib.hid hs
  clear hs
  go_loopg [7] n (fun gn s7 wr => ∃ k : Nat, s7 = .int .i64 k ∧ k ≤ n ∧ k ≤ 200 ∧ gn = n - k ∧ SE W0 wr p (opsS (ops2 xs) k))
  case atStart => exact ⟨0, rfl, by omega, by omega, by omega, HS.out⟩
  case round =>
    obtain ⟨k, rfl, hk, hk2, rfl, hs⟩ := hrel
    by_cases hgo : k < n ∧ k < 200
    · · obtain ⟨hlt, hl2⟩ := hgo
        obtain ⟨bb, off, cap', hveq, hbb, hXA⟩ := args2 hv hx (by omega)
        simp only [Value.slice.injEq, hn, true_and] at hveq
        obtain ⟨rfl, rfl⟩ := hveq
        rw [hn] at hXA
        obtain ⟨l0, l1⟩ := hXA wr hs.kp k (by omega)
        have HC : Hid (Calls Tryd.prog 8 #[.pointer (some ⟨p, 0, none⟩), .int .i64 (ops2 xs k).1, .bool (ops2 xs k).2] wr.drew fun e w' => e = .returned (.bool (inR (ops2 xs k).1)) ∧ SE W0 w' p (opsS (ops2 xs) (k + 1)) ∧ w'.cell? ⟨bb, off + k * 2, none⟩ = some (.int .i64 (ops2 xs k).1) ∧ w'.cell? ⟨bb, off + k * 2 + 1, none⟩ = some (.bool (ops2 xs k).2)) := Lib.hid (((hs.new (Keep.refl _ _).drew).put _ _).mono (fun e w' ⟨h1, h2, h3⟩ => ⟨h1, h2, hXA w' h2.kp k (by omega)⟩))
        generalize (ops2 xs k).1 = a at *
        generalize (ops2 xs k).2 = b at *
        have hkn : (k : Int) + 1 ≤ 201 := by omega
        clear hv hx hm hXA hs
        go_wp2_with fail
        go_region_held3 (fun w' => w'.cell? ⟨bb, off + k * 2, none⟩ = some (.int .i64 a) ∧ w'.cell? ⟨bb, off + k * 2 + 1, none⟩ = some (.bool b)) (first | exact ⟨l0, l1⟩ | exact ⟨m0, m1⟩ | go_keep)
          (first | (go_at_call 8; refine HC.out.mono ?_; rintro _ w5 ⟨rfl, hs, m0, m1⟩))
        all_goals
          have HS := Lib.hid hs
          clear hs HC l0 l1 m0 m1
          go_wp2_with fail
          go_roundg (n - (k + 1))
          case measure => omega
          case rel => exact ⟨k + 1, by go_num, by omega, by omega, rfl, HS.out⟩
    · clear hv hx HS
      have hs' := Lib.hid hs
      clear hs
      rcases Nat.lt_or_ge k n with hlt | hlt
      all_goals
        try have hl2 : 200 ≤ k := by omega
        go_upto_region 7 with fail
        have hs := hs'.out
        clear hs' hgo
        generalize opsS (ops2 xs) k = S at *
        have HS := Lib.hid hs
        clear hs
        go_wp2_with fail
        refine HS.out.told.mono ?_
        rintro _ w3 ⟨va, vc, rfl, hrow, hs, hk3⟩
        have hpB := ob_lt HS.out.set
        have hml := memL_len S 256
        have HR := Lib.hid (And.intro hs hrow)
        clear HS hs hrow hk3
        generalize wr.heap.size = B at *
        generalize hq : (memL S 256).length = q at *
        have HQ := Lib.hid hq
        clear hq
        go_wp2_with fail
        go_loopg [9] (ms.length) (fun gn s9 wr => ∃ i : Nat, s9 = .int .i64 i ∧ i ≤ ms.length ∧ i ≤ 100 ∧ gn = ms.length - i ∧ SE W0 wr p S ∧ RowE numE 3 wr B (.slice va q vc) (memL S 256))
        case atStart => exact ⟨0, rfl, by omega, by omega, by omega, HR.out⟩
        case round =>
          obtain ⟨i, rfl, hi, hi2, rfl, hs, hrow⟩ := hrel
          by_cases hgo : i < ms.length ∧ i < 100
          · obtain ⟨hlt, hl2⟩ := hgo
            obtain ⟨b1, o1, cap', hveq, hc3, hc4, hXB⟩ := hm.1.pos (by rw [List.length_map]; omega)
            rw [List.length_map] at hveq hc3
            simp only [Value.slice.injEq, List.length_map, true_and] at hveq
            obtain ⟨rfl, rfl⟩ := hveq
            have hxi : ms[i]? = some (ms[i]'hlt) := List.getElem?_eq_getElem _
            have hMC : ∀ w, Keep [] W0 w → w.cell? ⟨b1, o1 + i, none⟩ = some (.int .i64 (ms[i]'hlt)) := fun w hk => by
              obtain ⟨b2, o2, cap2, e2, _, _, h2⟩ := (hm.1.keep hk (by simp)).pos (by rw [List.length_map]; omega)
              simp only [Value.slice.injEq, Option.some.injEq, Addr.mk.injEq, and_true, true_and] at e2
              obtain ⟨⟨rfl, rfl⟩, rfl⟩ := e2
              exact h2 i _ (by rw [List.getElem?_map, hxi]; rfl)
            have c0 := hMC wr hs.kp
            generalize (ms[i]'hlt) = m at *
            have HH := Lib.hid (And.intro hrow hMC)
            have HM := Lib.hid hm
            have HS := Lib.hid hs
            have hi9 : (i : Int) + 1 ≤ 101 := by omega
            clear hm hs hrow hMC hxi hXB HR
            go_wp2_with fail
            refine (HS.out.has m).mono ?_
            rintro _ _ ⟨rfl, rfl⟩
            go_wp2_with fail
            refine (HS.out.put m true).mono ?_
            rintro _ w4 ⟨rfl, hs, hk4⟩
            have c4 := HH.out.2 w4 hs.kp
            have HR4 := Lib.hid (HH.out.1.keep hk4 (fun b hb => by have := ownBlock_ge HH.out.1 hb; simp; omega))
            have HS4 := Lib.hid hs
            clear hs hk4 c0
            go_wp2_with fail
            refine (HS4.out.has m).mono ?_
            rintro _ _ ⟨rfl, rfl⟩
            go_wp2_with fail
            refine (HS4.out.put m (hasS S m)).mono ?_
            rintro _ w5 ⟨rfl, hs, hk5⟩
            rw [putS_back] at hs
            have c5 := HH.out.2 w5 hs.kp
            have HR5 := Lib.hid (And.intro hs (HR4.out.keep hk5 (fun b hb => by have := ownBlock_ge HR4.out hb; simp; omega)))
            clear hs hk5 HR4 HS4 c4
            rw [hasS_put]
            generalize hasS S m = hb at *
            by_cases h0 : 0 ≤ m
            · by_cases h1 : m < 256
              · have hr : inR m = true := by unfold inR; simp; omega
                rw [hr]
                clear hr
                go_wp2_with fail
                go_roundg (ms.length - (i + 1))
                case measure => omega
                case rel => exact ⟨i + 1, by go_num, by omega, by omega, rfl, HR5.out⟩
              · have hr : inR m = false := by unfold inR; simp; omega
                have h1' : 256 ≤ m := by omega
                have d1 : decide (m < 256) = false := by simpa using h1'
                rw [hr]
                clear hr h1
                go_wp2_with fail
                go_roundg (ms.length - (i + 1))
                case measure => omega
                case rel => exact ⟨i + 1, by go_num, by omega, by omega, rfl, HR5.out⟩
            · have hr : inR m = false := by unfold inR; simp; omega
              have h0' : m < 0 := by omega
              have d1 : decide (0 ≤ m) = false := by simpa using h0'
              rw [hr]
              clear hr h0
              go_wp2_with fail
              go_roundg (ms.length - (i + 1))
              case measure => omega
              case rel => exact ⟨i + 1, by go_num, by omega, by omega, rfl, HR5.out⟩
          · have HH := Lib.hid (And.intro hs hrow)
            clear hs hrow HR hm
            rcases Nat.lt_or_ge i ms.length with hlt | hlt
            all_goals
              try have hl2 : 100 ≤ i := by omega
              go_upto_region 17 with fail
              clear hgo
              go_wp2_with fail
              refine HH.out.1.told.mono ?_
              rintro _ w6 ⟨va2, vc2, rfl, hrow2, hs2, hk2⟩
              have hrow1 := HH.out.2.keep hk2 (by simp)
              have hsame := rSame w6 _ _ _ _ _ hrow1 hrow2 (by have := memL_len S 256; omega)
              have HK := Lib.hid hs2.kp
              clear hrow1 hrow2 hs2 hk2 HH
              rw [HQ.out] at *
              go_wp2_with fail
              refine hsame.mono ?_
              rintro _ _ ⟨rfl, nd, rfl⟩
              clear hsame
              go_wp2_with fail
              go_ret
              exact ⟨rfl, HK.out.drewN _⟩
end Go.Proofs.YtfihnnijcaapkaaDoor
