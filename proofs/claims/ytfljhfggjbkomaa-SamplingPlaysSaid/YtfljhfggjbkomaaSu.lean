import Derived.Test.YtfljhfggjbkomaaSt
import Derived.Deep.RegionHeld3
namespace Go.Proofs.Ytfljhfggjbkomaa
open Go.RowKit
set_option linter.unusedSimpArgs false
set_option linter.unusedVariables false
attribute [local go_sem] ob_alloc ob_drew ob_drewN ob_setCell ob_setBlock objSet_cells obMap_map obClock_map isMapI_map keyI_mk findI_nil findI_cons lookRes_some lookRes_none lookRes_some' lookRes_none' setBlock_alloc mapPut

set_option maxRecDepth 100000 in
set_option maxHeartbeats 3000000 in
theorem plays17 (W0 : World) (words ticks : Int) (v0 : Value) (xs : List (List Value)) (hv : RdA W0 3 v0 xs) (hx : ∀ c ∈ xs, GCells W0 [.int .i64, .int .i64, .ints .u64] c) :
    Calls Try.prog 5 #[.int .i64 words, .int .i64 ticks, v0] W0 fun o w' => o = .returned (.bool true) ∧ Keep [] W0 w' := by
  obtain ⟨a0, cap0, rfl, hc1, hc2⟩ := hv.len
  unfold maxLen at hc2
  go_enter Try.func5, Try.ntmps5
  go_wp2_with fail
  refine (awake17 W0).mono ?_
  rintro _ w1 ⟨rfl, hk1⟩
  go_wp2_with fail
  refine (new_any words ticks w1).mono ?_
  rintro _ w2 ⟨hk2, h2⟩
  cases hok : okN words ticks with
  | false =>
    simp [hok] at h2
    subst h2
    go_wp2_with fail
    refine (refNew_any words ticks w2).mono ?_
    rintro _ w3 ⟨hk3, h3⟩
    simp [hok] at h3
    subst h3
    have hk : Keep [] W0 w3 := (hk1.trans hk2).trans hk3
    clear hok hv hx
    go_wp2
    go_loopw [12] (fun i wr => i = .int .i64 0 ∧ wr = w3) (fun _ _ => 0)
    case atStart => exact ⟨rfl, rfl⟩
    case round =>
      obtain ⟨rfl, rfl⟩ := hrel
      generalize xs.length = n at *
      by_cases h0 : 0 < n
      · go_wp2
        go_ret
        exact ⟨rfl, hk⟩
      · go_wp2
        go_ret
        exact ⟨rfl, hk⟩
  | true =>
    simp [hok] at h2
    obtain ⟨p, rfl, hp1, hp2, hP⟩ := h2
    go_wp2_with fail
    refine (refNew_any words ticks w2).mono ?_
    rintro _ w3 ⟨hk3, h3⟩
    simp [hok] at h3
    obtain ⟨r, rfl, hr1, hr2, hR⟩ := h3
    have hP3 := (hP [p, r]).keep hk3 (by simp) (by simp)
    have hR3 := hR [p, r]
    have hk : Keep [] W0 w3 := (hk1.trans hk2).trans hk3
    have hs := hk1.size
    have hs2 := hk2.size
    have hs3 := hk3.size
    have hwide : words ≤ 16 := by simp [okN] at hok; omega
    have hne : p ≠ r := by omega
    have hp : W0.heap.size ≤ p := by omega
    have hr : W0.heap.size ≤ r := by omega
    have hp3 : p < w3.heap.size := by omega
    clear hP hR hok hk1 hk2 hk3 hs hs2 hs3 hp1 hp2 hr1
    go_wp2
    go_loopw [12] (fun i wr => ∃ (k : Nat) (m : Option (List Int × Int)), i = .int .i64 k ∧ k ≤ 100 ∧ k ≤ xs.length ∧ p < wr.heap.size ∧ r < wr.heap.size ∧ PortAt wr p [p, r] words ticks m ∧ RefAt wr r [p, r] words ticks m ∧ Keep [] W0 wr) (fun i _ => 100 - (intOf i).toNat)
    case atStart => exact ⟨0, none, rfl, by omega, by omega, hp3, hr2, hP3, hR3, hk⟩
    case round =>
      obtain ⟨k, m, rfl, hk100, hkn, hpl, hrl, hPk, hRk, hkp⟩ := hrel
      clear hP3 hR3 hk hp3 hr2
      by_cases hlt : k < xs.length
      · by_cases h100 : k < 100
        · obtain ⟨b, off, cap', hveq, hb, hcells⟩ := (hv.keep hkp (by simp)).2 (by omega)
          simp only [Value.slice.injEq, true_and] at hveq
          obtain ⟨rfl, rfl⟩ := hveq
          have hxk : xs[k]? = some xs[k] := List.getElem?_eq_getElem hlt
          obtain ⟨hc3, hrange⟩ := hcells k _ hxk
          obtain ⟨_, _, hxe, ⟨d, rfl, wd⟩, _, _, rfl, ⟨now, rfl, wnow⟩, _, _, rfl, ⟨ws, hws0⟩, rfl⟩ := hx _ (List.getElem_mem hlt)
          rename_i vw
          rw [hxe] at hrange
          have l0 := hrange 0 _ rfl
          have l1 := hrange 1 _ rfl
          have l2 := hrange 2 _ rfl
          rw [Nat.add_zero] at l0
          have hnow := (i64_bd wnow).2
          clear hv hx hcells hxk hrange hc3 hxe wd wnow
          generalize xs.length = n at *
          have how : ∀ x, vw.ownBlock = some x → 0 < ws.length → x < W0.heap.size := fun x hx h0 => hws0.1.block hx (by simpa using h0)
          have hws := hws0.keep hkp (by simp)
          obtain ⟨hw1, hw2⟩ := hws
          obtain ⟨aw, cw, rfl, hw3, hw4⟩ := hw1.len
          unfold maxLen at hw4
          rw [List.length_map] at hw3 hw1 l2 how
          clear hws0
          have hru : RdU wr (.slice aw ws.length cw) ws := hw1
          have hB : Both (wr.alloc (.cells #[.int .i64 d, .int .i64 now, .slice aw ws.length cw] 56)) p r wr.heap.size words ticks d now (.slice aw ws.length cw) ws m m :=
            ⟨hPk.keep (S := []) ((Keep.refl _ _).alloc _) (by simp) (by simp), hRk.keep (S := []) ((Keep.refl _ _).alloc _) (by simp) (by simp), al_new wr _ rfl, Rd.alloc hru _, hne, by simp; omega, by simp; omega, by omega, by omega, hwide, fun x hx h0 => by have := how x hx h0; omega⟩
          have hkB : Keep [] W0 (wr.alloc (.cells #[.int .i64 d, .int .i64 now, .slice aw ws.length cw] 56)) := hkp.alloc _
          clear hPk hRk hru hw1 hw2 how
          by_cases hbig : ws.length ≤ 100
          · rcases (show d = 0 ∨ d = 1 ∨ d = 2 ∨ (d ≠ 0 ∧ d ≠ 1 ∧ d ≠ 2) by omega) with rfl | rfl | rfl | hd
            case' inl =>
              go_wp2_with fail
              have hBd := hB.keep (Keep.drew (Keep.refl [] _))
              go_region_held3 (fun w' => w'.cell? ⟨wr.heap.size, 1, none⟩ = some (.int .i64 now) ∧ w'.cell? ⟨wr.heap.size, 2, none⟩ = some (.slice aw ws.length cw)) (go_keep)
                (first | (go_at_call 35; refine (Both.write (by assumption)).mono ?_; rintro _ wa ⟨rfl, hBa, hka⟩; have ca := cell_of_ob hBa.op; have la := ob_lt hBa.op) | (go_at_call 36; refine (Both.refWrite (by assumption)).mono ?_; rintro _ wb ⟨rfl, hBb, hkb⟩; have cb := cell_of_ob hBb.op; have lb := ob_lt hBb.op))
            case' inr.inl =>
              go_wp2_with fail
              have hBd := hB.keep (Keep.drew (Keep.refl [] _))
              go_region_held3 (fun w' => w'.cell? ⟨wr.heap.size, 1, none⟩ = some (.int .i64 now) ∧ w'.cell? ⟨wr.heap.size, 2, none⟩ = some (.slice aw ws.length cw)) (go_keep)
                (first | (go_at_call 35; refine (Both.write (by assumption)).mono ?_; rintro _ wa ⟨rfl, hBa, hka⟩; have ca := cell_of_ob hBa.op; have la := ob_lt hBa.op) | (go_at_call 36; refine (Both.refWrite (by assumption)).mono ?_; rintro _ wb ⟨rfl, hBb, hkb⟩; have cb := cell_of_ob hBb.op; have lb := ob_lt hBb.op))
            case' inr.inr.inr =>
              obtain ⟨hd0, hd1, hd2⟩ := hd
              go_wp2_with fail
              refine (Both.scrub (by assumption)).mono ?_
              rintro _ wa ⟨rfl, hBa, hka⟩
              obtain ⟨q1, q2, q3, hrr⟩ := hBa.ref.cells
              have cr := cell_of_ob hrr
              have fr := free_of_ob hrr
              have lr := hBa.hr
              have hBr := hBa.reset
              have ca := cell_of_ob hBa.op
              have la := ob_lt hBa.op
            all_goals
              go_wp2_with fail
              refine (Both.read (by assumption) hnow).mono ?_
              rintro _ w6 ⟨vx, rfl, hRx, hB6, hk6⟩
              have c6 := cell_of_ob hB6.op
              have l6 := ob_lt hB6.op
              go_wp2_with fail
              refine (Both.refRead (by assumption) hnow).mono ?_
              rintro _ w7 ⟨vy, rfl, hRy, hB7, hk7⟩
              have hRx7 : RdU w7 vx _ := Rd.keep hRx hk7 (by simp)
              go_wp2_with fail
              refine (same_any w7 vx vy _ _ hRx7 hRy).mono ?_
              rintro _ w8 ⟨rfl, hk8⟩
              have hB8 := hB7.keep hk8
              have hkE : Keep [] W0 w8 := by repeat (first | exact Keep.refl _ _ | refine Keep.drew ?_ | refine Keep.drewN ?_ _ | refine Keep.setCell ?_ (by first | (left; simp; done) | (right; simp; done) | (right; omega) | (right; simp; omega)) _ _ | refine Keep.setBlock ?_ (by first | (left; simp; done) | (right; simp; done) | (right; omega) | (right; simp; omega)) _ | refine Keep.alloc ?_ _ | refine Keep.andThen ?_ (by assumption) (by first | (simp; done) | (simp; omega) | (intro x hx; simp at hx; simp; omega)))
              simp only [decide_true]
              generalize rd ticks now _ = q at *
              clear hRx hRy hRx7 c6 l6 l0 l1 l2
              go_wp2
              go_roundw
              case rel => exact ⟨k + 1, _, by go_num, by omega, by omega, hB8.hp, hB8.hr, hB8.port, hB8.ref, hkE⟩
              case measure => simp [intOf]; omega
          · go_wp2
            go_ret
            exact ⟨rfl, hkB⟩
        · generalize xs.length = n at *
          clear hv hx hPk hRk
          go_wp2
          go_ret
          exact ⟨rfl, hkp⟩
      · generalize xs.length = n at *
        clear hv hx hPk hRk
        go_wp2
        go_ret
        exact ⟨rfl, hkp⟩
end Go.Proofs.Ytfljhfggjbkomaa
