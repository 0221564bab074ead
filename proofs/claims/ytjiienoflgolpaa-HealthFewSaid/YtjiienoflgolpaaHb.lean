import Derived.Test.YtjiienoflgolpaaHa
namespace Go.Proofs.Ytjiienoflgolpaa
open Go.RowKit
set_option linter.unusedSimpArgs false
set_option linter.unusedVariables false
attribute [local go_sem] ob_alloc ob_drew ob_drewN ob_setCell ob_setBlock objSet_cells obMap_map obClock_map isMapI_map keyI_mk findI_nil findI_cons lookRes_some lookRes_none lookRes_some' lookRes_none' setBlock_alloc mapPut

theorem zeroE25 : ∀ w, (zeroValue 3).run Try.prog w = .ok (.int .i64 0) w := by intro w; go_simp
def pkOk (p k : Int) : Bool := pOk p && kOk k

set_option maxRecDepth 100000 in
set_option maxHeartbeats 400000 in
theorem hOf_yes (w : World) (p : Nat) (s : Nat → Int) (hM : HMon w p s) (q : Nat) (hq : q < 8) (k : Int) (hk : kOk k = true) :
    Calls Try.prog 54 #[.pointer (some ⟨p, 0, none⟩), .int .i64 q, .int .i64 k] w fun o w' => o = .returned (.tuple #[.pointer (some ⟨p, q * 6, none⟩), .int .i64 (kIx k)]) ∧ Keep [] w w' := by
  have c0 := hM.cell (q * 6) (by omega)
  go_enter Try.func54, Try.ntmps54
  go_wp2_with fail
  refine (kinds_any w).mono ?_
  rintro _ w1 ⟨m, rfl, hm, hk1⟩
  have hl := hm.look (P := Try.prog) Try.underlying114 Try.underlying25 zeroE25 k
  rw [kind_look, if_pos hk] at hl
  simp only [lookL] at hl
  have h0 : ((q : Int) < 0) = False := by simp
  have h8 : decide ((q : Int) ≥ 8) = false := by simp; omega
  clear hm hk c0 hM
  go_wp2
  go_ret2
  exact ⟨rfl, hk1⟩

set_option maxRecDepth 100000 in
set_option maxHeartbeats 400000 in
theorem hOf_no (w : World) (p : Nat) (q k : Int) (hk : pkOk q k = false) :
    Calls Try.prog 54 #[.pointer (some ⟨p, 0, none⟩), .int .i64 q, .int .i64 k] w fun o w' => o = .returned (.tuple #[.pointer none, .int .i64 0]) ∧ Keep [] w w' := by
  cases hkk : kOk k with
  | false =>
    go_enter Try.func54, Try.ntmps54
    go_wp2_with fail
    refine (kinds_any w).mono ?_
    rintro _ w1 ⟨m, rfl, hm, hk1⟩
    have hl := hm.look (P := Try.prog) Try.underlying114 Try.underlying25 zeroE25 k
    rw [kind_look, if_neg (by simp [hkk])] at hl
    simp only [lookL] at hl
    clear hm hk hkk
    go_wp2
    go_ret2
    exact ⟨rfl, hk1⟩
  | true =>
    have hp : ¬ (0 ≤ q ∧ q ≤ 7) := by
      unfold pkOk pOk at hk
      simpa [hkk] using hk
    clear hk
    by_cases hq : q < 0
    · clear hp
      go_enter Try.func54, Try.ntmps54
      go_wp2_with fail
      refine (kinds_any w).mono ?_
      rintro _ w1 ⟨m, rfl, hm, hk1⟩
      have hl := hm.look (P := Try.prog) Try.underlying114 Try.underlying25 zeroE25 k
      rw [kind_look, if_pos hkk] at hl
      simp only [lookL] at hl
      clear hm hkk
      go_wp2
      go_ret2
      exact ⟨rfl, hk1⟩
    · have h8 : 8 ≤ q := by omega
      clear hp
      go_enter Try.func54, Try.ntmps54
      go_wp2_with fail
      refine (kinds_any w).mono ?_
      rintro _ w1 ⟨m, rfl, hm, hk1⟩
      have hl := hm.look (P := Try.prog) Try.underlying114 Try.underlying25 zeroE25 k
      rw [kind_look, if_pos hkk] at hl
      simp only [lookL] at hl
      clear hm hkk
      go_wp2
      go_ret2
      exact ⟨rfl, hk1⟩

/-! ### New -/
def h0 (k : Nat) : Nat → Int := fun j => if j / 6 < k ∧ j % 6 < 4 then 1 else 0
theorem h0_step (k j : Nat) : updI (updI (updI (updI (h0 k) (k * 6) 1) (k * 6 + 1) 1) (k * 6 + 2) 1) (k * 6 + 3) 1 j = h0 (k + 1) j := by
  unfold updI h0
  by_cases h : j / 6 < k
  · rw [if_neg (by omega), if_neg (by omega), if_neg (by omega), if_neg (by omega)]
    by_cases h2 : j % 6 < 4
    · rw [if_pos ⟨h, h2⟩, if_pos ⟨by omega, h2⟩]
    · rw [if_neg (fun a => h2 a.2), if_neg (fun a => h2 a.2)]
  · by_cases h3 : j / 6 = k
    · by_cases h2 : j % 6 < 4
      · rw [if_pos (c := j / 6 < k + 1 ∧ j % 6 < 4) ⟨by omega, h2⟩]
        split
        · rfl
        · split
          · rfl
          · split
            · rfl
            · split
              · rfl
              · omega
      · rw [if_neg (by omega), if_neg (by omega), if_neg (by omega), if_neg (by omega), if_neg (fun a => h2 a.2), if_neg (fun a => h2 a.2)]
    · rw [if_neg (by omega), if_neg (by omega), if_neg (by omega), if_neg (by omega), if_neg (fun a => h a.1), if_neg (fun a => by omega)]

set_option maxRecDepth 100000 in
set_option maxHeartbeats 400000 in
theorem hNew (w : World) : Calls Try.prog 30 #[] w fun o w' => o = .returned (.pointer (some ⟨w.heap.size, 0, none⟩)) ∧ HMon w' w.heap.size (h0 8) ∧ Keep [] w w' ∧ w.heap.size < w'.heap.size := by
  go_enter Try.func30, Try.ntmps30
  go_wp2
  obtain ⟨w0, hw0, hM0, hk0⟩ : ∃ w0, w0 = w.alloc (.cells (blk (vI (h0 0)) 48) 104) ∧ HMon w0 w.heap.size (h0 0) ∧ Keep [] w w0 := ⟨_, rfl, al_new _ _ rfl, (Keep.refl _ _).alloc _⟩
  have e0 : blk (vI (h0 0)) 48 = Array.replicate 48 (.int .i64 0) := rfl
  rw [e0] at hw0
  simp only [Array.replicate, List.replicate] at hw0
  obtain ⟨g, hg⟩ : ∃ g, g = w.heap.size := ⟨_, rfl⟩
  rw [← hg] at hM0 ⊢
  rw [← hw0]
  clear hw0 e0
  have lg := ob_lt hM0
  have hgw : w.heap.size ≤ g := by omega
  have HG := Lib.hid hg
  clear hg
  go_loopw [5] (fun i wr => ∃ k : Nat, k ≤ 8 ∧ i = .int .i64 k ∧ HMon wr g (h0 k) ∧ Keep [] w wr) (fun i _ => 8 - (intOf i).toNat)
  case atStart => exact ⟨0, by omega, rfl, hM0, hk0⟩
  case round =>
    obtain ⟨k, hk, rfl, hM, hkp⟩ := hrel
    have lr := ob_lt hM
    by_cases hlt : k < 8
    · have c0 := hM.cell (k * 6) (by omega)
      obtain ⟨x1, c1⟩ : ∃ x, wr.cell? ⟨g, k * 6 + 1, none⟩ = some x := ⟨_, hM.cell (k * 6 + 1) (by omega)⟩
      obtain ⟨x2, c2⟩ : ∃ x, wr.cell? ⟨g, k * 6 + 2, none⟩ = some x := ⟨_, hM.cell (k * 6 + 2) (by omega)⟩
      obtain ⟨x3, c3⟩ : ∃ x, wr.cell? ⟨g, k * 6 + 3, none⟩ = some x := ⟨_, hM.cell (k * 6 + 3) (by omega)⟩
      have fr := free_of_ob hM
      have hN := (((hM.store (k * 6) 1).store (k * 6 + 1) 1).store (k * 6 + 2) 1).store (k * 6 + 3) 1
      have hN' := hN.congr (t := h0 (k + 1)) (fun i _ => h0_step k i)
      have hkk : Keep [] w ((((wr.setCell ⟨g, k * 6, none⟩ (.int .i64 1)).setCell ⟨g, k * 6 + 1, none⟩ (.int .i64 1)).setCell ⟨g, k * 6 + 2, none⟩ (.int .i64 1)).setCell ⟨g, k * 6 + 3, none⟩ (.int .i64 1)) :=
        (((hkp.setCell (.inr (by omega)) _ _).setCell (.inr (by omega)) _ _).setCell (.inr (by omega)) _ _).setCell (.inr (by omega)) _ _
      clear hM hM0 hN
      have HN := Lib.hid hN'
      have HK := Lib.hid hkk
      clear hN' hkk
      go_wp2
      go_roundw
      case rel => exact ⟨k + 1, by omega, by go_num, HN.out, HK.out⟩
      case measure => simp [intOf]; omega
    · have e : k = 8 := by omega
      subst e
      clear hM0
      go_wp2
      go_ret
      exact ⟨by rw [HG.out]; rfl, by rw [← HG.out]; exact hM, hkp, by omega⟩
end Go.Proofs.Ytjiienoflgolpaa
