import Derived.Test.YtjiienoflgolpaaHc
namespace Go.Proofs.Ytjiienoflgolpaa
open Go.RowKit
set_option linter.unusedSimpArgs false
set_option linter.unusedVariables false
attribute [local go_sem] ob_alloc ob_drew ob_drewN ob_setCell ob_setBlock objSet_cells obMap_map obClock_map isMapI_map keyI_mk findI_nil findI_cons lookRes_some lookRes_none lookRes_some' lookRes_none' setBlock_alloc mapPut

theorem rRight (w : World) (q k : Int) : Calls Try.prog 55 #[.int .i64 q, .int .i64 k] w fun o w' => o = .returned (.bool (pkOk q k)) ∧ w = w' := by
  cases hpk : pkOk q k with
  | true =>
    obtain ⟨n, rfl, hn, hkk⟩ := pkOk_out hpk
    have hk : k = 9 ∨ k = 10 ∨ k = 11 ∨ k = 13 := by simpa [kOk] using hkk
    have hn7 : n ≤ 7 := by omega
    clear hpk hkk
    rcases hk with rfl | rfl | rfl | rfl
    all_goals
      go_enter Try.func55, Try.ntmps55
      go_wp2
      go_ret
      exact ⟨rfl, rfl⟩
  | false =>
    by_cases h1 : q < 0
    · clear hpk
      go_enter Try.func55, Try.ntmps55
      go_wp2
      go_ret
      exact ⟨rfl, rfl⟩
    by_cases h2 : 7 < q
    · clear hpk
      go_enter Try.func55, Try.ntmps55
      go_wp2
      go_ret
      exact ⟨rfl, rfl⟩
    have hk : ¬ (k = 9 ∨ k = 10 ∨ k = 11 ∨ k = 13) := by
      unfold pkOk pOk kOk at hpk
      rw [Bool.and_eq_false_iff] at hpk
      rcases hpk with h | h
      · simp at h; omega
      · simpa using h
    have e1 : (k == 9) = false := by simp; omega
    have e2 : (k == 10) = false := by simp; omega
    have e3 : (k == 11) = false := by simp; omega
    have e4 : (k == 13) = false := by simp; omega
    clear hpk hk
    go_enter Try.func55, Try.ntmps55
    go_wp2
    go_ret
    exact ⟨rfl, rfl⟩

theorem kOk_nat {k : Int} (h : kOk k = true) : ∃ m : Nat, k = m ∧ m < 14 := by
  have h : k = 9 ∨ k = 10 ∨ k = 11 ∨ k = 13 := by simpa [kOk] using h
  exact ⟨k.toNat, by omega, by omega⟩

/-! ### New -/
def r0 (a b : Nat) : Nat → Int := fun j => if j < 112 ∧ (j / 14 < a ∨ j / 14 = a ∧ j % 14 < b) then 1 else 0
theorem r0_step (a b : Nat) (ha : a < 8) (hb : b < 14) (j : Nat) : updI (r0 a b) (a * 14 + b) 1 j = r0 a (b + 1) j := by
  unfold updI r0
  by_cases h : j = a * 14 + b
  · subst h; rw [if_pos rfl, if_pos (by omega)]
  · rw [if_neg h]
    by_cases h2 : j < 112 ∧ (j / 14 < a ∨ j / 14 = a ∧ j % 14 < b)
    · rw [if_pos h2, if_pos (by omega)]
    · rw [if_neg h2, if_neg (by omega)]
theorem r0_next (a : Nat) (j : Nat) : r0 a 14 j = r0 (a + 1) 0 j := by
  unfold r0
  by_cases h2 : j < 112 ∧ (j / 14 < a ∨ j / 14 = a ∧ j % 14 < 14)
  · rw [if_pos h2, if_pos (by omega)]
  · rw [if_neg h2, if_neg (by omega)]

set_option maxRecDepth 100000 in
set_option maxHeartbeats 400000 in
theorem rNew (w : World) : Calls Try.prog 34 #[] w fun o w' => o = .returned (.pointer (some ⟨w.heap.size, 0, none⟩)) ∧ RMon w' w.heap.size (r0 8 0) ∧ Keep [] w w' ∧ w.heap.size < w'.heap.size := by
  have hz : ∀ w, (zeroValue 111).run Try.prog w = .ok (.agg (blk (vI (r0 0 0)) 128)) w := fun w => by kernel_rfl
  go_enter Try.func34, Try.ntmps34
  go_wp2
  obtain ⟨w0, hw0, hM0, hk0⟩ : ∃ w0, w0 = w.alloc (.cells (blk (vI (r0 0 0)) 128) 111) ∧ RMon w0 w.heap.size (r0 0 0) ∧ Keep [] w w0 := ⟨_, rfl, al_new _ _ rfl, (Keep.refl _ _).alloc _⟩
  obtain ⟨g, hg⟩ : ∃ g, g = w.heap.size := ⟨_, rfl⟩
  rw [← hg] at hM0 ⊢
  rw [← hw0]
  clear hw0 hz
  have lg := ob_lt hM0
  have hgw : w.heap.size ≤ g := by omega
  have HG := Lib.hid hg
  clear hg
  go_loopw [2, 3] (fun i _ wr => ∃ k : Nat, k ≤ 8 ∧ i = .int .i64 k ∧ RMon wr g (r0 k 0) ∧ Keep [] w wr) (fun i _ _ => 8 - (intOf i).toNat)
  case atStart => exact ⟨0, by omega, rfl, hM0, hk0⟩
  case round =>
    obtain ⟨k, hk, rfl, hM, hkp⟩ := hrel
    have lr := ob_lt hM
    obtain ⟨wo, rfl⟩ : ∃ wo : World, wo = wr := ⟨_, rfl⟩
    by_cases hlt : k < 8
    · go_wp2
      clear hM0
      go_loopw [3] (fun i wr => ∃ m : Nat, m ≤ 14 ∧ i = .int .i64 m ∧ RMon wr g (r0 k m) ∧ Keep [] w wr) (fun i _ => 14 - (intOf i).toNat)
      case atStart => exact ⟨0, by omega, rfl, hM, hkp⟩
      case round =>
        clear hM hkp lr
        obtain ⟨m, hm, rfl, hM, hkp⟩ := hrel
        have lr := ob_lt hM
        by_cases hlm : m < 14
        · obtain ⟨x0, c0⟩ : ∃ x, wr.cell? ⟨g, k * 14 + m, none⟩ = some x := ⟨_, hM.cell (k * 14 + m) (by omega)⟩
          have fr := free_of_ob hM
          have HN := Lib.hid ((hM.store (k * 14 + m) 1).congr (t := r0 k (m + 1)) (fun i _ => r0_step k m hlt hlm i))
          have HK := Lib.hid (hkp.setCell (.inr hgw) (k * 14 + m) (.int .i64 1))
          clear hM hkp
          go_wp2
          go_roundw
          case rel => exact ⟨m + 1, by omega, by go_num, HN.out, HK.out⟩
          case measure => simp [intOf]; omega
        · have e : m = 14 := by omega
          subst e
          have HN := Lib.hid (hM.congr (t := r0 (k + 1) 0) (fun i _ => r0_next k i))
          clear hM
          go_wp2
          go_roundw
          case rel => exact ⟨k + 1, by omega, by go_num, HN.out, hkp⟩
          case measure => simp [intOf]; omega
    · have e : k = 8 := by omega
      subst e
      clear hM0
      go_wp2
      go_ret
      exact ⟨by rw [HG.out]; rfl, by rw [← HG.out]; exact hM, hkp, by omega⟩

/-! ### Set -/
set_option maxRecDepth 100000 in
set_option maxHeartbeats 400000 in
theorem rSet (w : World) (p : Nat) (s : Nat → Int) (hM : RMon w p s) (q k a : Int) :
    Calls Try.prog 35 #[.pointer (some ⟨p, 0, none⟩), .int .i64 q, .int .i64 k, .int .i64 a] w fun o w' => o = .returned (.int .i64 (setR q k a)) ∧ RMon w' p (rSetS s q k a) ∧ Keep [p] w w' := by
  unfold setR rSetS
  have hk0 := Keep.refl [p] w
  cases hpk : pkOk q k with
  | false =>
    simp only [Bool.false_and, Bool.false_eq_true, if_false]
    go_enter Try.func35, Try.ntmps35
    go_wp2_with fail
    refine (rRight w q k).mono ?_
    rintro _ w1 ⟨rfl, rfl⟩
    rw [hpk]
    clear hpk
    go_wp2
    go_ret
    exact ⟨rfl, hM, hk0⟩
  | true =>
    obtain ⟨n, rfl, hn, hkk⟩ := pkOk_out hpk
    obtain ⟨m, rfl, hm⟩ := kOk_nat hkk
    cases ha : aOk a with
    | false =>
      simp only [Bool.and_false, Bool.false_eq_true, if_false]
      have ha' : ¬ (0 ≤ a ∧ a ≤ 2) := by simpa [aOk] using ha
      rcases (show a < 0 ∨ (¬ a < 0 ∧ 2 < a) by omega) with h | h
      all_goals
        clear ha ha'
        go_enter Try.func35, Try.ntmps35
        go_wp2_with fail
        refine (rRight w n m).mono ?_
        rintro _ w1 ⟨rfl, rfl⟩
        rw [hpk]
        clear hpk hkk
        go_wp2
        go_ret
        exact ⟨rfl, hM, hk0⟩
    | true =>
      simp only [Bool.and_true, if_true, Int.toNat_natCast]
      have ha' : 0 ≤ a ∧ a ≤ 2 := by simpa [aOk] using ha
      have a1 : ¬ a < 0 := by omega
      have a2 : ¬ a > 2 := by omega
      obtain ⟨x, c0⟩ : ∃ x, w.cell? ⟨p, n * 14 + m, none⟩ = some x := ⟨_, hM.cell (n * 14 + m) (by omega)⟩
      have fr := free_of_ob hM
      have H2 := Lib.hid (hM.store (n * 14 + m) a)
      have K2 := Lib.hid (hk0.setCell (.inl (by simp)) (b := p) (n * 14 + m) (.int .i64 a))
      clear ha ha' hM hk0
      go_enter Try.func35, Try.ntmps35
      go_wp2_with fail
      refine (rRight w n m).mono ?_
      rintro _ w1 ⟨rfl, rfl⟩
      rw [hpk]
      clear hpk hkk
      go_wp2
      go_ret
      exact ⟨rfl, H2.out, K2.out⟩

/-! ### On -/
def rOnX (x z : Int) : Int × Int := if x = 2 then if z = 3 then (1, 0) else (x, 0) else (x, 0)
def rOnY (s : Nat → Int) (i : Nat) (x y z : Int) : Nat → Int := if x = 2 ∧ ¬ z = 3 then updI (updI s (112 + i) (inc y)) (120 + i) (inc z) else updI s (112 + i) (inc y)
def rOnR (s : Nat → Int) (q k : Int) : Int × Int := if pkOk q k = true then rOnX (s (q.toNat * 14 + k.toNat)) (s (120 + q.toNat)) else (0, 1)
def rOnS (s : Nat → Int) (q k : Int) : Nat → Int := if pkOk q k = true then rOnY s q.toNat (s (q.toNat * 14 + k.toNat)) (s (112 + q.toNat)) (s (120 + q.toNat)) else s
set_option maxRecDepth 100000 in
set_option maxHeartbeats 400000 in
theorem rOn (w : World) (p : Nat) (s : Nat → Int) (hM : RMon w p s) (q k : Int) :
    Calls Try.prog 36 #[.pointer (some ⟨p, 0, none⟩), .int .i64 q, .int .i64 k] w fun o w' => o = .returned (.tuple #[.int .i64 (rOnR s q k).1, .int .i64 (rOnR s q k).2]) ∧ RMon w' p (rOnS s q k) ∧ Keep [p] w w' := by
  unfold rOnR rOnS
  have hk0 := Keep.refl [p] w
  cases hpk : pkOk q k with
  | false =>
    simp only [Bool.false_eq_true, if_false]
    go_enter Try.func36, Try.ntmps36
    go_wp2_with fail
    refine (rRight w q k).mono ?_
    rintro _ w1 ⟨rfl, rfl⟩
    rw [hpk]
    clear hpk
    go_wp2
    go_ret2
    exact ⟨rfl, hM, hk0⟩
  | true =>
    obtain ⟨n, rfl, hn, hkk⟩ := pkOk_out hpk
    obtain ⟨m, rfl, hm⟩ := kOk_nat hkk
    simp only [if_true, Int.toNat_natCast]
    have c1 := hM.cell (112 + n) (by omega)
    have c2 := hM.cell (n * 14 + m) (by omega)
    have c3 := hM.cell (120 + n) (by omega)
    have fr := free_of_ob hM
    generalize s (n * 14 + m) = x at *
    generalize s (112 + n) = y at *
    generalize s (120 + n) = z at *
    have hinc : IntKind.i64.wrap (y + 1) = inc y := rfl
    have hincz : IntKind.i64.wrap (z + 1) = inc z := rfl
    have H1 := Lib.hid (hM.store (112 + n) (inc y))
    have H2 := Lib.hid ((hM.store (112 + n) (inc y)).store (120 + n) (inc z))
    have d1 : n * 14 + m ≠ 112 + n := by omega
    clear hM
    by_cases h2 : x = 2
    · subst h2
      by_cases h3 : z = 3
      · subst h3
        rw [show rOnX 2 3 = (1, 0) by rfl, show rOnY s n 2 y 3 = updI s (112 + n) (inc y) by rfl]
        go_enter Try.func36, Try.ntmps36
        go_wp2_with fail
        refine (rRight w n m).mono ?_
        rintro _ w1 ⟨rfl, rfl⟩
        rw [hpk]
        clear hpk hkk
        go_wp2
        go_region
        all_goals go_wp2
        all_goals go_ret2
        exact ⟨rfl, H1.out, by repeat (first | exact Keep.refl _ _ | refine Keep.drew ?_ | refine Keep.drewN ?_ _ | refine Keep.setCell ?_ (by first | (left; simp; done) | (right; simp; done) | (right; omega) | (right; simp; omega)) _ _ | refine Keep.setBlock ?_ (by first | (left; simp; done) | (right; simp; done) | (right; omega) | (right; simp; omega)) _ | refine Keep.alloc ?_ _ | refine Keep.andThen ?_ (by assumption) (by first | (simp; done) | (simp; omega) | (intro x hx; simp at hx; simp; omega)))⟩
      · rw [show rOnX 2 z = (2, 0) by unfold rOnX; rw [if_pos rfl, if_neg h3], show rOnY s n 2 y z = updI (updI s (112 + n) (inc y)) (120 + n) (inc z) by unfold rOnY; rw [if_pos ⟨rfl, h3⟩]]
        have h3' : (z == 3) = false := by simpa using h3
        go_enter Try.func36, Try.ntmps36
        go_wp2_with fail
        refine (rRight w n m).mono ?_
        rintro _ w1 ⟨rfl, rfl⟩
        rw [hpk]
        clear hpk hkk
        go_wp2
        go_region
        all_goals go_wp2
        all_goals go_region
        all_goals go_wp2
        all_goals go_ret2
        exact ⟨rfl, H2.out, by repeat (first | exact Keep.refl _ _ | refine Keep.drew ?_ | refine Keep.drewN ?_ _ | refine Keep.setCell ?_ (by first | (left; simp; done) | (right; simp; done) | (right; omega) | (right; simp; omega)) _ _ | refine Keep.setBlock ?_ (by first | (left; simp; done) | (right; simp; done) | (right; omega) | (right; simp; omega)) _ | refine Keep.alloc ?_ _ | refine Keep.andThen ?_ (by assumption) (by first | (simp; done) | (simp; omega) | (intro x hx; simp at hx; simp; omega)))⟩
    · rw [show rOnX x z = (x, 0) by unfold rOnX; rw [if_neg h2], show rOnY s n x y z = updI s (112 + n) (inc y) by unfold rOnY; rw [if_neg (fun a => h2 a.1)]]
      have h2' : (x == 2) = false := by simpa using h2
      go_enter Try.func36, Try.ntmps36
      go_wp2_with fail
      refine (rRight w n m).mono ?_
      rintro _ w1 ⟨rfl, rfl⟩
      rw [hpk]
      clear hpk hkk
      go_wp2
      go_region
      all_goals go_wp2
      all_goals go_ret2
      exact ⟨rfl, H1.out, by repeat (first | exact Keep.refl _ _ | refine Keep.drew ?_ | refine Keep.drewN ?_ _ | refine Keep.setCell ?_ (by first | (left; simp; done) | (right; simp; done) | (right; omega) | (right; simp; omega)) _ _ | refine Keep.setBlock ?_ (by first | (left; simp; done) | (right; simp; done) | (right; omega) | (right; simp; omega)) _ | refine Keep.alloc ?_ _ | refine Keep.andThen ?_ (by assumption) (by first | (simp; done) | (simp; omega) | (intro x hx; simp at hx; simp; omega)))⟩

/-! ### Count, Forget -/
def rCountR (s : Nat → Int) (q : Int) : Int := if pOk q = true then s (112 + q.toNat) else 0
def rForgetS (s : Nat → Int) (q : Int) : Nat → Int := if pOk q = true then updI (updI s (112 + q.toNat) 0) (120 + q.toNat) 0 else s
set_option maxRecDepth 100000 in
set_option maxHeartbeats 400000 in
theorem rCount (w : World) (p : Nat) (s : Nat → Int) (hM : RMon w p s) (q : Int) :
    Calls Try.prog 39 #[.pointer (some ⟨p, 0, none⟩), .int .i64 q] w fun o w' => o = .returned (.int .i64 (rCountR s q)) ∧ w = w' := by
  unfold rCountR
  cases hq : pOk q with
  | true =>
    obtain ⟨n, rfl, hn⟩ := pOk_out hq
    have c0 := hM.cell (112 + n) (by omega)
    have hn7 : n ≤ 7 := by omega
    simp only [if_true, Int.toNat_natCast]
    generalize s (112 + n) = x at *
    clear hM hq
    go_enter Try.func39, Try.ntmps39
    go_wp2
    go_ret
    exact ⟨rfl, rfl⟩
  | false =>
    simp only [Bool.false_eq_true, if_false]
    have h : ¬ (0 ≤ q ∧ q ≤ 7) := by simpa [pOk] using hq
    rcases (show q < 0 ∨ (¬ q < 0 ∧ 7 < q) by omega) with h1 | h1
    all_goals
      clear hq h hM
      go_enter Try.func39, Try.ntmps39
      go_wp2
      go_ret
      exact ⟨rfl, rfl⟩
set_option maxRecDepth 100000 in
set_option maxHeartbeats 400000 in
theorem rForget (w : World) (p : Nat) (s : Nat → Int) (hM : RMon w p s) (q : Int) :
    Calls Try.prog 38 #[.pointer (some ⟨p, 0, none⟩), .int .i64 q] w fun o w' => o = .returned (.int .i64 (forgetR q)) ∧ RMon w' p (rForgetS s q) ∧ Keep [p] w w' := by
  unfold forgetR rForgetS
  cases hq : pOk q with
  | true =>
    obtain ⟨n, rfl, hn⟩ := pOk_out hq
    have hn7 : n ≤ 7 := by omega
    simp only [if_true, Int.toNat_natCast]
    obtain ⟨x, c0⟩ : ∃ x, w.cell? ⟨p, 112 + n, none⟩ = some x := ⟨_, hM.cell (112 + n) (by omega)⟩
    obtain ⟨y, c1⟩ : ∃ x, w.cell? ⟨p, 120 + n, none⟩ = some x := ⟨_, hM.cell (120 + n) (by omega)⟩
    have fr := free_of_ob hM
    have H1 := Lib.hid ((hM.store (112 + n) 0).store (120 + n) 0)
    clear hM hq
    go_enter Try.func38, Try.ntmps38
    go_wp2
    go_ret
    exact ⟨rfl, H1.out, by repeat (first | exact Keep.refl _ _ | refine Keep.drew ?_ | refine Keep.drewN ?_ _ | refine Keep.setCell ?_ (by first | (left; simp; done) | (right; simp; done) | (right; omega) | (right; simp; omega)) _ _ | refine Keep.setBlock ?_ (by first | (left; simp; done) | (right; simp; done) | (right; omega) | (right; simp; omega)) _ | refine Keep.alloc ?_ _ | refine Keep.andThen ?_ (by assumption) (by first | (simp; done) | (simp; omega) | (intro x hx; simp at hx; simp; omega)))⟩
  | false =>
    simp only [Bool.false_eq_true, if_false]
    have h : ¬ (0 ≤ q ∧ q ≤ 7) := by simpa [pOk] using hq
    have hk := Keep.refl [p] w
    rcases (show q < 0 ∨ (¬ q < 0 ∧ 7 < q) by omega) with h1 | h1
    all_goals
      clear hq h
      go_enter Try.func38, Try.ntmps38
      go_wp2
      go_ret
      exact ⟨rfl, hM, hk⟩
end Go.Proofs.Ytjiienoflgolpaa
