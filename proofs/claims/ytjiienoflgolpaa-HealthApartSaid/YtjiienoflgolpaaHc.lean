import Derived.Test.YtjiienoflgolpaaHb
namespace Go.Proofs.Ytjiienoflgolpaa
open Go.RowKit
set_option linter.unusedSimpArgs false
set_option linter.unusedVariables false
attribute [local go_sem] ob_alloc ob_drew ob_drewN ob_setCell ob_setBlock objSet_cells obMap_map obClock_map isMapI_map keyI_mk findI_nil findI_cons lookRes_some lookRes_none lookRes_some' lookRes_none' setBlock_alloc mapPut

def aOk (a : Int) : Bool := decide (0 ≤ a ∧ a ≤ 2)
theorem pkOk_out {q k : Int} (h : pkOk q k = true) : ∃ n : Nat, q = n ∧ n < 8 ∧ kOk k = true := by
  unfold pkOk pOk at h
  simp only [Bool.and_eq_true, decide_eq_true_eq] at h
  obtain ⟨n, rfl⟩ := Int.eq_ofNat_of_zero_le h.1.1
  exact ⟨n, rfl, by omega, h.2⟩
theorem HMon.keep {w w' : World} {p : Nat} {s : Nat → Int} {S : List Nat} (h : HMon w p s) (hk : Keep S w w') (hp : p ∉ S) : HMon w' p s := hk.kp h hp
theorem RMon.keep {w w' : World} {p : Nat} {s : Nat → Int} {S : List Nat} (h : RMon w p s) (hk : Keep S w w') (hp : p ∉ S) : RMon w' p s := hk.kp h hp

/-! ### Set -/
def setR (q k a : Int) : Int := if (pkOk q k && aOk a) = true then 0 else 1
def hSetS (s : Nat → Int) (q k a : Int) : Nat → Int := if (pkOk q k && aOk a) = true then updI s (q.toNat * 6 + kIx k) a else s
def rSetS (t : Nat → Int) (q k a : Int) : Nat → Int := if (pkOk q k && aOk a) = true then updI t (q.toNat * 14 + k.toNat) a else t
set_option maxRecDepth 100000 in
set_option maxHeartbeats 400000 in
theorem hSet (w : World) (p : Nat) (s : Nat → Int) (hM : HMon w p s) (q k a : Int) :
    Calls Try.prog 31 #[.pointer (some ⟨p, 0, none⟩), .int .i64 q, .int .i64 k, .int .i64 a] w fun o w' => o = .returned (.int .i64 (setR q k a)) ∧ HMon w' p (hSetS s q k a) ∧ Keep [p] w w' := by
  unfold setR hSetS
  cases hpk : pkOk q k with
  | false =>
    simp only [Bool.false_and, Bool.false_eq_true, if_false]
    go_enter Try.func31, Try.ntmps31
    go_wp2_with fail
    refine (hOf_no w p q k hpk).mono ?_
    rintro _ w1 ⟨rfl, hk1⟩
    have hM1 := hM.keep hk1 (by simp)
    have hk2 : Keep [p] w w1 := hk1.mono (by simp)
    clear hM hpk
    go_wp2
    go_ret
    exact ⟨rfl, hM1, hk2⟩
  | true =>
    obtain ⟨n, rfl, hn, hkk⟩ := pkOk_out hpk
    have hkx := kIx_lt k
    cases ha : aOk a with
    | false =>
      simp only [Bool.and_false, Bool.false_eq_true, if_false]
      have ha' : ¬ (0 ≤ a ∧ a ≤ 2) := by simpa [aOk] using ha
      rcases (show a < 0 ∨ (¬ a < 0 ∧ 2 < a) by omega) with h | h
      all_goals
        clear ha ha'
        go_enter Try.func31, Try.ntmps31
        go_wp2_with fail
        refine (hOf_yes w p s hM n hn k hkk).mono ?_
        rintro _ w1 ⟨rfl, hk1⟩
        have hM1 := hM.keep hk1 (by simp)
        have hk2 : Keep [p] w w1 := hk1.mono (by simp)
        clear hM hpk
        go_wp2
        go_ret
        exact ⟨rfl, hM1, hk2⟩
    | true =>
      simp only [Bool.and_true, if_true]
      have ha' : 0 ≤ a ∧ a ≤ 2 := by simpa [aOk] using ha
      have a1 : ¬ a < 0 := by omega
      have a2 : ¬ a > 2 := by omega
      clear ha ha'
      go_enter Try.func31, Try.ntmps31
      go_wp2_with fail
      refine (hOf_yes w p s hM n hn k hkk).mono ?_
      rintro _ w1 ⟨rfl, hk1⟩
      have hM1 := hM.keep hk1 (by simp)
      have hM2 := hM1.store (n * 6 + kIx k) a
      have hk2 : Keep [p] w (w1.setCell ⟨p, n * 6 + kIx k, none⟩ (.int .i64 a)) := (hk1.mono (by simp)).setCell (.inl (by simp)) _ _
      obtain ⟨x, c0⟩ : ∃ x, w1.cell? ⟨p, n * 6 + kIx k, none⟩ = some x := ⟨_, hM1.cell (n * 6 + kIx k) (by omega)⟩
      have fr := free_of_ob hM1
      have H2 := Lib.hid hM2
      have K2 := Lib.hid hk2
      clear hM hpk hM1 hM2 hk2
      go_wp2
      go_ret
      exact ⟨rfl, H2.out, K2.out⟩

/-! ### On -/
def inc (x : Int) : Int := IntKind.i64.wrap (x + 1)
def onX (x z : Int) : Int × Int := if x = 2 then if 3 ≤ z then (1, 0) else (2, 0) else (x, 0)
def onY (s : Nat → Int) (i : Nat) (x y z : Int) : Nat → Int := if x = 2 ∧ ¬ 3 ≤ z then updI (updI s (i + 4) (inc y)) (i + 5) (inc z) else updI s (i + 4) (inc y)
def onR (s : Nat → Int) (q k : Int) : Int × Int := if pkOk q k = true then onX (s (q.toNat * 6 + kIx k)) (s (q.toNat * 6 + 5)) else (0, 1)
def onS (s : Nat → Int) (q k : Int) : Nat → Int := if pkOk q k = true then onY s (q.toNat * 6) (s (q.toNat * 6 + kIx k)) (s (q.toNat * 6 + 4)) (s (q.toNat * 6 + 5)) else s
set_option maxRecDepth 100000 in
set_option maxHeartbeats 400000 in
theorem hOn (w : World) (p : Nat) (s : Nat → Int) (hM : HMon w p s) (q k : Int) :
    Calls Try.prog 32 #[.pointer (some ⟨p, 0, none⟩), .int .i64 q, .int .i64 k] w fun o w' => o = .returned (.tuple #[.int .i64 (onR s q k).1, .int .i64 (onR s q k).2]) ∧ HMon w' p (onS s q k) ∧ Keep [p] w w' := by
  unfold onR onS
  cases hpk : pkOk q k with
  | false =>
    simp only [Bool.false_eq_true, if_false]
    go_enter Try.func32, Try.ntmps32
    go_wp2_with fail
    refine (hOf_no w p q k hpk).mono ?_
    rintro _ w1 ⟨rfl, hk1⟩
    have hM1 := hM.keep hk1 (by simp)
    have hk2 : Keep [p] w w1 := hk1.mono (by simp)
    clear hM hpk
    go_wp2
    go_ret2
    exact ⟨rfl, hM1, hk2⟩
  | true =>
    obtain ⟨n, rfl, hn, hkk⟩ := pkOk_out hpk
    have hkx := kIx_lt k
    simp only [if_true, Int.toNat_natCast]
    have hs4 : n * 6 + kIx k ≠ n * 6 + 4 := by omega
    generalize hx : s (n * 6 + kIx k) = x
    generalize hy : s (n * 6 + 4) = y
    generalize hz : s (n * 6 + 5) = z
    have hinc : IntKind.i64.wrap (y + 1) = inc y := rfl
    have hincz : IntKind.i64.wrap (z + 1) = inc z := rfl
    have main : ∀ w1 : World, HMon w1 p s → Keep [] w w1 → (w1.cell? ⟨p, n * 6 + 4, none⟩ = some (.int .i64 y) ∧ w1.cell? ⟨p, n * 6 + kIx k, none⟩ = some (.int .i64 x) ∧ w1.cell? ⟨p, n * 6 + 5, none⟩ = some (.int .i64 z) ∧ (∀ i, w1.frozen? ⟨p, i, none⟩ = false)) ∧
        HMon (w1.setCell ⟨p, n * 6 + 4, none⟩ (.int .i64 (inc y))) p (updI s (n * 6 + 4) (inc y)) ∧ Keep [p] w (w1.setCell ⟨p, n * 6 + 4, none⟩ (.int .i64 (inc y))) ∧
        HMon ((w1.setCell ⟨p, n * 6 + 4, none⟩ (.int .i64 (inc y))).setCell ⟨p, n * 6 + 5, none⟩ (.int .i64 (inc z))) p (updI (updI s (n * 6 + 4) (inc y)) (n * 6 + 5) (inc z)) ∧ Keep [p] w ((w1.setCell ⟨p, n * 6 + 4, none⟩ (.int .i64 (inc y))).setCell ⟨p, n * 6 + 5, none⟩ (.int .i64 (inc z))) := by
      intro w1 h hk
      exact ⟨⟨by rw [← hy]; exact h.cell _ (by omega), by rw [← hx]; exact h.cell _ (by omega), by rw [← hz]; exact h.cell _ (by omega), free_of_ob h⟩, h.store _ _, (hk.mono (by simp)).setCell (.inl (by simp)) _ _, (h.store _ _).store _ _, ((hk.mono (by simp)).setCell (.inl (by simp)) _ _).setCell (.inl (by simp)) _ _⟩
    have MAIN := Lib.hid main
    clear main hx hy hz
    by_cases h2 : x = 2
    · subst h2
      by_cases h3 : z ≥ 3
      · rw [show onX 2 z = (1, 0) by unfold onX; rw [if_pos rfl, if_pos h3], show onY s (n * 6) 2 y z = updI s (n * 6 + 4) (inc y) by unfold onY; rw [if_neg (fun a => a.2 h3)]]
        go_enter Try.func32, Try.ntmps32
        go_wp2_with fail
        refine (hOf_yes w p s hM n hn k hkk).mono ?_
        rintro _ w1 ⟨rfl, hk1⟩
        obtain ⟨⟨c1, c2, c3, fr⟩, q1, q2, q3, q4⟩ := MAIN.out w1 (hM.keep hk1 (by simp)) hk1
        have Q1 := Lib.hid q1
        have Q2 := Lib.hid q2
        clear hM hpk q1 q2 q3 q4
        go_wp2
        go_ret2
        exact ⟨rfl, Q1.out, Q2.out⟩
      · rw [show onX 2 z = (2, 0) by unfold onX; rw [if_pos rfl, if_neg h3], show onY s (n * 6) 2 y z = updI (updI s (n * 6 + 4) (inc y)) (n * 6 + 5) (inc z) by unfold onY; rw [if_pos ⟨rfl, h3⟩]]
        go_enter Try.func32, Try.ntmps32
        go_wp2_with fail
        refine (hOf_yes w p s hM n hn k hkk).mono ?_
        rintro _ w1 ⟨rfl, hk1⟩
        obtain ⟨⟨c1, c2, c3, fr⟩, q1, q2, q3, q4⟩ := MAIN.out w1 (hM.keep hk1 (by simp)) hk1
        have Q1 := Lib.hid q3
        have Q2 := Lib.hid q4
        clear hM hpk q1 q2 q3 q4
        go_wp2
        go_ret2
        exact ⟨rfl, Q1.out, Q2.out⟩
    · rw [show onX x z = (x, 0) by unfold onX; rw [if_neg h2], show onY s (n * 6) x y z = updI s (n * 6 + 4) (inc y) by unfold onY; rw [if_neg (fun a => h2 a.1)]]
      have h2' : (x == 2) = false := by simpa using h2
      go_enter Try.func32, Try.ntmps32
      go_wp2_with fail
      refine (hOf_yes w p s hM n hn k hkk).mono ?_
      rintro _ w1 ⟨rfl, hk1⟩
      obtain ⟨⟨c1, c2, c3, fr⟩, q1, q2, q3, q4⟩ := MAIN.out w1 (hM.keep hk1 (by simp)) hk1
      have Q1 := Lib.hid q1
      have Q2 := Lib.hid q2
      clear hM hpk q1 q2 q3 q4
      go_wp2
      go_ret2
      exact ⟨rfl, Q1.out, Q2.out⟩

/-! ### Count, Forget -/
def countR (s : Nat → Int) (q : Int) : Int := if pOk q = true then s (q.toNat * 6 + 4) else 0
def forgetR (q : Int) : Int := if pOk q = true then 0 else 1
def forgetS (s : Nat → Int) (q : Int) : Nat → Int := if pOk q = true then updI (updI s (q.toNat * 6 + 4) 0) (q.toNat * 6 + 5) 0 else s
theorem pOk_out {q : Int} (h : pOk q = true) : ∃ n : Nat, q = n ∧ n < 8 := by
  unfold pOk at h
  simp only [decide_eq_true_eq] at h
  obtain ⟨n, rfl⟩ := Int.eq_ofNat_of_zero_le h.1
  exact ⟨n, rfl, by omega⟩
set_option maxRecDepth 100000 in
set_option maxHeartbeats 400000 in
theorem hCount (w : World) (p : Nat) (s : Nat → Int) (hM : HMon w p s) (q : Int) :
    Calls Try.prog 33 #[.pointer (some ⟨p, 0, none⟩), .int .i64 q] w fun o w' => o = .returned (.int .i64 (countR s q)) ∧ w = w' := by
  unfold countR
  cases hq : pOk q with
  | true =>
    obtain ⟨n, rfl, hn⟩ := pOk_out hq
    have c0 := hM.cell (n * 6 + 4) (by omega)
    simp only [if_true, Int.toNat_natCast]
    generalize s (n * 6 + 4) = x at *
    clear hM hq
    go_enter Try.func33, Try.ntmps33
    go_wp2
    go_ret
    exact ⟨rfl, rfl⟩
  | false =>
    simp only [Bool.false_eq_true, if_false]
    have h : ¬ (0 ≤ q ∧ q ≤ 7) := by simpa [pOk] using hq
    rcases (show q < 0 ∨ (¬ q < 0 ∧ 8 ≤ q) by omega) with h1 | h1
    all_goals
      clear hq h hM
      go_enter Try.func33, Try.ntmps33
      go_wp2
      go_ret
      exact ⟨rfl, rfl⟩
set_option maxRecDepth 100000 in
set_option maxHeartbeats 400000 in
theorem hForget (w : World) (p : Nat) (s : Nat → Int) (hM : HMon w p s) (q : Int) :
    Calls Try.prog 37 #[.pointer (some ⟨p, 0, none⟩), .int .i64 q] w fun o w' => o = .returned (.int .i64 (forgetR q)) ∧ HMon w' p (forgetS s q) ∧ Keep [p] w w' := by
  unfold forgetR forgetS
  cases hq : pOk q with
  | true =>
    obtain ⟨n, rfl, hn⟩ := pOk_out hq
    simp only [if_true, Int.toNat_natCast]
    obtain ⟨x, c0⟩ : ∃ x, w.cell? ⟨p, n * 6 + 4, none⟩ = some x := ⟨_, hM.cell (n * 6 + 4) (by omega)⟩
    obtain ⟨y, c1⟩ : ∃ x, w.cell? ⟨p, n * 6 + 5, none⟩ = some x := ⟨_, hM.cell (n * 6 + 5) (by omega)⟩
    have fr := free_of_ob hM
    have h1 := (hM.store (n * 6 + 4) 0).store (n * 6 + 5) 0
    have h2 := (hM.store (n * 6 + 5) 0).store (n * 6 + 4) 0
    have H1 := Lib.hid h1
    have H2 := Lib.hid (h2.congr (t := updI (updI s (n * 6 + 4) 0) (n * 6 + 5) 0) (fun i _ => by unfold updI; split <;> split <;> simp))
    clear hM hq h1 h2
    go_enter Try.func37, Try.ntmps37
    go_wp2
    go_region
    all_goals
      go_wp2
      go_ret
      refine ⟨rfl, ?_, by repeat (first | exact Keep.refl _ _ | refine Keep.drew ?_ | refine Keep.drewN ?_ _ | refine Keep.setCell ?_ (by first | (left; simp; done) | (right; simp; done) | (right; omega) | (right; simp; omega)) _ _ | refine Keep.setBlock ?_ (by first | (left; simp; done) | (right; simp; done) | (right; omega) | (right; simp; omega)) _ | refine Keep.alloc ?_ _ | refine Keep.andThen ?_ (by assumption) (by first | (simp; done) | (simp; omega) | (intro x hx; simp at hx; simp; omega)))⟩
      first | exact H1.out | exact H2.out
  | false =>
    simp only [Bool.false_eq_true, if_false]
    have h : ¬ (0 ≤ q ∧ q ≤ 7) := by simpa [pOk] using hq
    have hk := Keep.refl [p] w
    rcases (show q < 0 ∨ (¬ q < 0 ∧ 8 ≤ q) by omega) with h1 | h1
    all_goals
      clear hq h
      go_enter Try.func37, Try.ntmps37
      go_wp2
      go_ret
      exact ⟨rfl, hM, hk⟩
end Go.Proofs.Ytjiienoflgolpaa
