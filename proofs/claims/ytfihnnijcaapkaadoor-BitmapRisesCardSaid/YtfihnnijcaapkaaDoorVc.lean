import Derived.Test.YtfihnnijcaapkaaDoorVb
namespace Go.Proofs.YtfihnnijcaapkaaDoor
open Go.RowKit
set_option linter.unusedSimpArgs false
set_option linter.unusedVariables false
attribute [local go_sem] ob_alloc ob_drew ob_drewN ob_setCell ob_setBlock objSet_cells obMap_map obClock_map isMapI_map keyI_mk findI_nil findI_cons lookRes_some lookRes_none lookRes_some' lookRes_none' setBlock_alloc mapPut

/-! ### the table of math/bits -/
def tabL : List Int := [0, 1, 56, 2, 57, 49, 28, 3, 61, 58, 42, 50, 38, 29, 17, 4, 62, 47, 59, 36, 45, 43, 51, 22, 53, 39, 33, 30, 24, 18, 12, 5, 63, 55, 48, 27, 60, 41, 37, 16, 46, 35, 44, 21, 52, 32, 23, 11, 54, 26, 40, 15, 34, 20, 31, 10, 25, 14, 19, 9, 13, 8, 7, 6]
def TabAt (w : World) : Prop := ∀ i : Nat, i < 64 → w.cell? ⟨0, i, none⟩ = some (.int .u8 (tabL.getD i 0))
theorem TabAt.keep {S : List Nat} {w w' : World} (h : TabAt w) (hk : Keep S w w') (h0 : 0 < w.heap.size) (hS : 0 ∉ S) : TabAt w' := fun i hi => by
  have := hk.block 0 h0 hS
  rw [cell_ob, this, ← cell_ob]
  exact h i hi
theorem deB : ∀ q : Fin 64, (((2 ^ q.val : Nat) : Int) * 285870213051353865 % 18446744073709551616) / 288230376151711744 = ((((2 ^ q.val * 285870213051353865) % 18446744073709551616 / 288230376151711744 : Nat)) : Int) ∧ (2 ^ q.val * 285870213051353865) % 18446744073709551616 / 288230376151711744 < 64 ∧ tabL.getD ((2 ^ q.val * 285870213051353865) % 18446744073709551616 / 288230376151711744) 0 = (q.val : Int) := by decide
theorem tz_num (w : World) (ht : TabAt w) (x q : Nat) (hx : x < 2 ^ 64) (hq : q < 64) (h0 : x ≠ 0) (hl : x &&& (2 ^ 64 - x) = 2 ^ q) :
    ∃ (A : Int) (ix : Nat), ix < 64 ∧ bits .and .u64 (x : Int) (IntKind.u64.wrap (-(x : Int))) = A ∧ IntKind.u64.wrap (A * 285870213051353865) / 288230376151711744 = (ix : Int) ∧ w.cell? ⟨0, ix, none⟩ = some (.int .u8 q) := by
  obtain ⟨d1, d2, d3⟩ := deB ⟨q, hq⟩
  simp only at d1 d2 d3
  have hneg : IntKind.u64.wrap (-(x : Int)) = ((2 ^ 64 - x : Nat) : Int) := by
    unfold IntKind.wrap; simp [IntKind.bits, IntKind.signed]; omega
  have hc := ht _ d2
  rw [d3] at hc
  refine ⟨((2 ^ q : Nat) : Int), _, d2, ?_, ?_, hc⟩
  · rw [hneg, u64_and_nat _ _ hx (by omega), hl]
  · rw [← d1]; unfold IntKind.wrap; simp [IntKind.bits, IntKind.signed]
set_option maxRecDepth 100000 in
set_option maxHeartbeats 400000 in
theorem tz_any (w : World) (ht : TabAt w) (x q : Nat) (hx : x < 2 ^ 64) (hq : q < 64) (h0 : x ≠ 0) (hl : x &&& (2 ^ 64 - x) = 2 ^ q) :
    Calls Tryd.prog 22 #[.int .u64 x] w fun e w' => e = .returned (.int .i64 q) ∧ w' = w := by
  obtain ⟨A, ix, d2, hand, hidx2, hc⟩ := tz_num w ht x q hx hq h0 hl
  have h0' : (x : Int) ≠ 0 := by omega
  clear hl ht hx h0
  go_enter Tryd.func22, Tryd.ntmps22
  go_wp2_with fail
  go_ret
  exact ⟨rfl, rfl⟩

/-! ### the set -/
def wO (S : Nat → Bool) : Nat → Value := vU (fun j => ((wd S j : Nat) : Int))
def IsSet (w : World) (p : Nat) (S : Nat → Bool) : Prop := ob w p = some (.cells (blk (wO S) 4) 29 (0, 0))
theorem IsSet.keep {L : List Nat} {w w' : World} {p : Nat} {S : Nat → Bool} (h : IsSet w p S) (hk : Keep L w w') (hp : p ∉ L) : IsSet w' p S := hk.kp h hp
def inR (n : Int) : Bool := decide (0 ≤ n ∧ n < 256)
def putS (S : Nat → Bool) (n : Int) (b : Bool) : Nat → Bool := if inR n = true then upS S n.toNat b else S
def hasS (S : Nat → Bool) (n : Int) : Bool := inR n && S n.toNat
theorem IsSet.cell {w : World} {p : Nat} {S : Nat → Bool} (h : IsSet w p S) {j : Nat} (hj : j < 4) : w.cell? ⟨p, j, none⟩ = some (.int .u64 (wd S j : Nat)) := blk_cell h hj
theorem IsSet.put {w : World} {p : Nat} {S : Nat → Bool} (h : IsSet w p S) (n : Nat) (hn : n < 256) (b : Bool) : IsSet (w.setCell ⟨p, n / 64, none⟩ (.int .u64 (putN (wd S (n / 64)) b.toNat (n % 64) 1 : Nat))) p (upS S n b) := by
  have := blk_store h (n / 64) (.int .u64 (putN (wd S (n / 64)) b.toNat (n % 64) 1 : Nat))
  unfold IsSet
  rw [this]
  congr 2
  refine blk_congr (fun j hj => ?_)
  unfold upd wO vU
  by_cases e : j = n / 64
  · rw [if_pos e, wd_put, e]
  · rw [if_neg e]; simp only [wd_other S n b j e]
set_option maxRecDepth 100000 in
set_option maxHeartbeats 400000 in
theorem sPut (w : World) (p : Nat) (S : Nat → Bool) (h : IsSet w p S) (n : Int) (b : Bool) :
    Calls Tryd.prog 8 #[.pointer (some ⟨p, 0, none⟩), .int .i64 n, .bool b] w fun e w' => e = .returned (.bool (inR n)) ∧ IsSet w' p (putS S n b) ∧ Keep [p] w w' := by
  by_cases h0 : 0 ≤ n
  · by_cases h1 : n < 256
    · have hr : inR n = true := by unfold inR; simp; omega
      unfold putS
      rw [hr, if_pos rfl]
      obtain ⟨m, rfl⟩ := Int.eq_ofNat_of_zero_le h0
      have hm : m < 256 := by omega
      rw [Int.toNat_natCast]
      have hc := h.cell (j := m / 64) (by omega)
      have hl := ob_lt h
      have e1 : ((m : Int)).tdiv 64 = ((m / 64 : Nat) : Int) := by rw [Int.tdiv_eq_ediv_of_nonneg (by omega)]; omega
      have e2 : ((m : Int)).tmod 64 = ((m % 64 : Nat) : Int) := by rw [Int.tmod_eq_emod_of_nonneg (by omega)]; omega
      have hj : m / 64 < 4 := by omega
      have hk : m % 64 < 64 := by omega
      have hcall := put_yes (wd S (m / 64)) b.toNat (wd_lt _ _) ((m % 64 : Nat) : Int) 1 (by rw [okF_iff]; omega) (by cases b <;> decide) w
      have HS := Lib.hid (fun (w2 : World) (hk2 : Keep [] w w2) => And.intro ((h.keep hk2 (by simp)).put m hm b) (And.intro (free_of_ob (h.keep hk2 (by simp)) (m / 64)) ((h.keep hk2 (by simp)).cell (j := m / 64) (by omega))))
      simp only [Int.toNat_natCast] at hcall
      generalize m / 64 = j at *
      generalize m % 64 = k at *
      generalize wd S j = x at *
      clear h h1 hr
      go_enter Tryd.func8, Tryd.ntmps8
      cases b
      all_goals
        go_wp2_with fail
        refine hcall.mono ?_
        rintro _ w2 ⟨rfl, hk2⟩
        obtain ⟨hset, hf, hc2⟩ := HS.out w2 hk2
        have hl2 := Nat.lt_of_lt_of_le hl hk2.size
        have HH := Lib.hid (And.intro hset hk2)
        clear hcall HS hset hk2 hc
        go_wp2_with fail
        go_ret
        exact ⟨rfl, HH.out.1, (HH.out.2.mono (by simp)).setCell (.inl (by simp)) _ _⟩
    · have hr : inR n = false := by unfold inR; simp; omega
      unfold putS
      rw [hr]
      have h1' : 256 ≤ n := by omega
      have HH := Lib.hid h
      clear h hr
      go_enter Tryd.func8, Tryd.ntmps8
      go_wp2_with fail
      go_ret
      exact ⟨rfl, HH.out, Keep.refl _ _⟩
  · have hr : inR n = false := by unfold inR; simp; omega
    unfold putS
    rw [hr]
    have HH := Lib.hid h
    clear h hr
    go_enter Tryd.func8, Tryd.ntmps8
    go_wp2_with fail
    go_ret
    exact ⟨rfl, HH.out, Keep.refl _ _⟩
set_option maxRecDepth 100000 in
set_option maxHeartbeats 400000 in
theorem sHas (w : World) (p : Nat) (S : Nat → Bool) (h : IsSet w p S) (n : Int) :
    Calls Tryd.prog 10 #[.pointer (some ⟨p, 0, none⟩), .int .i64 n] w fun e w' => e = .returned (.bool (hasS S n)) ∧ w' = w := by
  by_cases h0 : 0 ≤ n
  · by_cases h1 : n < 256
    · have hr : inR n = true := by unfold inR; simp; omega
      unfold hasS
      rw [hr, Bool.true_and]
      obtain ⟨m, rfl⟩ := Int.eq_ofNat_of_zero_le h0
      have hm : m < 256 := by omega
      rw [Int.toNat_natCast]
      have hc := h.cell (j := m / 64) (by omega)
      have e1 : ((m : Int)).tdiv 64 = ((m / 64 : Nat) : Int) := by rw [Int.tdiv_eq_ediv_of_nonneg (by omega)]; omega
      have e2 : ((m : Int)).tmod 64 = ((m % 64 : Nat) : Int) := by rw [Int.tmod_eq_emod_of_nonneg (by omega)]; omega
      have hj : m / 64 < 4 := by omega
      have hk : m % 64 < 64 := by omega
      have ha := and_one (wd S (m / 64)) (wd_lt _ _) (m % 64)
      rw [wd_at] at ha
      generalize m / 64 = j at *
      generalize m % 64 = k at *
      generalize wd S j = x at *
      generalize S m = s at *
      clear h h1 hr
      go_enter Tryd.func10, Tryd.ntmps10
      go_wp2_with fail
      go_ret
      exact ⟨ret_b (by cases s <;> rfl), rfl⟩
    · have hr : inR n = false := by unfold inR; simp; omega
      unfold hasS
      rw [hr]
      have h1' : 256 ≤ n := by omega
      have h2' : ¬ n < 256 := by omega
      clear h hr
      go_enter Tryd.func10, Tryd.ntmps10
      go_wp2_with fail
      go_ret
      exact ⟨rfl, rfl⟩
  · have hr : inR n = false := by unfold inR; simp; omega
    unfold hasS
    rw [hr]
    clear h hr
    go_enter Tryd.func10, Tryd.ntmps10
    go_wp2_with fail
    go_ret
    exact ⟨rfl, rfl⟩
set_option maxRecDepth 100000 in
set_option maxHeartbeats 400000 in
theorem sAll (w : World) (p : Nat) : Calls Tryd.prog 18 #[.pointer (some ⟨p, 0, none⟩)] w fun e w' => e = .returned (.func (.func 21) #[] #[.pointer (some ⟨w.heap.size, 0, none⟩)]) ∧ w' = w.alloc (.cells #[.pointer (some ⟨p, 0, none⟩)] 25) := by
  have hmf : ∀ (fn : Fn) (first cap : Array Value) (w : World), (Instr.makeFunc fn first cap).run Tryd.prog w = .ok (.func fn first cap) w := fun _ _ _ _ => rfl
  go_enter Tryd.func18, Tryd.ntmps18
  go_wp2_with fail
  go_ret
  exact ⟨rfl, rfl⟩
end Go.Proofs.YtfihnnijcaapkaaDoor
