import Derived.Test.YtpkpdfljhpieaaaBe
namespace Go.Proofs.Ytpkpdfljhpieaaa
open Go.RowKit
set_option linter.unusedSimpArgs false
set_option linter.unusedVariables false
attribute [local go_sem] ob_alloc ob_drew ob_drewN ob_setCell ob_setBlock objSet_cells obMap_map obClock_map isMapI_map keyI_mk findI_nil findI_cons lookRes_some lookRes_none lookRes_some' lookRes_none' setBlock_alloc mapPut
/-! ### BitsLogs -/
theorem shl_one (k : Int) (h0 : 0 ≤ k) (h : k ≤ 31) : wrap64 (1 * 2 ^ k.toNat) = P2 k.toNat := by
  have hp := P2_pos k.toNat
  have hl : P2 k.toNat ≤ 2147483648 := P2_mono (show k.toNat ≤ 31 by omega)
  have : (1 : Int) * 2 ^ k.toNat = P2 k.toNat := by unfold P2; omega
  rw [this]
  exact IntWalk.wrap64_in _ (by omega)
theorem LG31 (n : Int) (hn : n ≤ 1073741824) : LG n ≤ 30 := by
  rcases Nat.lt_or_ge 30 (LG n) with h | h
  · have := LG_lo n (by omega) 30 h
    have e : P2 30 = 1073741824 := by decide
    omega
  · exact h

set_option maxRecDepth 100000 in
set_option maxHeartbeats 400000 in
theorem logs_no (n o : Int) (h : n < 1 ∨ 1073741824 < n ∨ o < 0 ∨ 30 < o) (w : World) :
    Calls Try.prog 6 #[.int .i64 n, .int .i64 o] w fun e w' => e = .returned (.bool true) ∧ Keep [] w w' := by
  by_cases h1 : n < 1
  · clear h
    go_enter Try.func6, Try.ntmps6
    go_wp2_with (go_at_call 13; refine (awake_any _).mono ?_; rintro e w1 ⟨rfl, hk⟩)
    go_ret
    exact ⟨rfl, hk⟩
  · by_cases h2 : 1073741824 < n
    · clear h
      go_enter Try.func6, Try.ntmps6
      go_wp2_with (go_at_call 13; refine (awake_any _).mono ?_; rintro e w1 ⟨rfl, hk⟩)
      go_ret
      exact ⟨rfl, hk⟩
    · by_cases h3 : o < 0
      · clear h
        go_enter Try.func6, Try.ntmps6
        go_wp2_with (go_at_call 13; refine (awake_any _).mono ?_; rintro e w1 ⟨rfl, hk⟩)
        go_ret
        exact ⟨rfl, hk⟩
      · have h4 : 30 < o := by omega
        clear h
        go_enter Try.func6, Try.ntmps6
        go_wp2_with (go_at_call 13; refine (awake_any _).mono ?_; rintro e w1 ⟨rfl, hk⟩)
        go_ret
        exact ⟨rfl, hk⟩

theorem logs_core (n o Q a p : Int) (L : Nat) (hn : 1 ≤ n) (hn2 : n ≤ 1073741824) (h3 : 0 ≤ o) (h4 : o ≤ 30) (hL : L ≤ 30) (hQ1 : 1 ≤ Q) (hQ2 : Q ≤ 1073741824) (ha0 : 0 ≤ a) (ha : a ≤ n) (hna : n - a < Q) (hmod : a % Q = 0)
    (hp : n ≤ p) (hp2 : p ≤ 1073741824) (hph : L ≠ 0 → p / 2 < n) (hsh : wrap64 (2 ^ L) = p) (hqq : wrap64 (2 ^ o.toNat) = Q)
    (hlog : ∀ w, Calls Try.prog 18 #[.int .i64 n] w fun e w' => e = .returned (.int .i64 (L : Int)) ∧ w = w')
    (hal : ∀ w, Calls Try.prog 19 #[.int .i64 n, .int .i64 o] w fun e w' => e = .returned (.int .i64 a) ∧ w = w') (w : World) :
    Calls Try.prog 6 #[.int .i64 n, .int .i64 o] w fun e w' => e = .returned (.bool true) ∧ Keep [] w w' := by
  have Hlog := Lib.hid hlog
  have Hal := Lib.hid hal
  clear hlog hal
  have hm2 : (a % Q == 0) = true := by simpa using hmod
  clear hmod
  by_cases hl : L = 0
  · subst hl
    have hp1 : p = 1 := by rw [← hsh, Int.pow_zero]; exact IntWalk.wrap64_in 1 (by omega)
    subst hp1
    have hsh1 : wrap64 1 = 1 := IntWalk.wrap64_in 1 (by omega)
    clear hph hsh
    go_enter Try.func6, Try.ntmps6
    go_wp2_with (first | (go_at_call 13; refine (awake_any _).mono ?_; rintro e w1 ⟨rfl, hk⟩) | (go_at_call 18; refine (Hlog.out _).mono ?_; rintro e w' ⟨rfl, rfl⟩) | (go_at_call 19; refine (Hal.out _).mono ?_; rintro e w' ⟨rfl, rfl⟩))
    go_ret
    exact ⟨rfl, hk⟩
  · have hph := hph hl
    have hl1 : 1 ≤ L := by omega
    have hl2 : ((L : Int) == 0) = false := by simp; omega
    clear hl
    go_enter Try.func6, Try.ntmps6
    go_wp2_with (first | (go_at_call 13; refine (awake_any _).mono ?_; rintro e w1 ⟨rfl, hk⟩) | (go_at_call 18; refine (Hlog.out _).mono ?_; rintro e w' ⟨rfl, rfl⟩) | (go_at_call 19; refine (Hal.out _).mono ?_; rintro e w' ⟨rfl, rfl⟩))
    go_ret
    exact ⟨rfl, hk⟩

theorem logs_yes (n o : Int) (h1 : 1 ≤ n) (h2 : n ≤ 1073741824) (h3 : 0 ≤ o) (h4 : o ≤ 30) (w : World) :
    Calls Try.prog 6 #[.int .i64 n, .int .i64 o] w fun e w' => e = .returned (.bool true) ∧ Keep [] w w' := by
  have hl := LG31 n h2
  have hQ := P2_pos o.toNat
  have hQ2 : P2 o.toNat ≤ 1073741824 := P2_mono (show o.toNat ≤ 30 by omega)
  have hL2 : P2 (LG n) ≤ 1073741824 := P2_mono hl
  have hLp := P2_pos (LG n)
  have ha := al_le n o (by omega)
  have hdm := Int.mul_ediv_add_emod n (P2 o.toNat)
  have hmm := Int.emod_lt_of_pos n (show 0 < P2 o.toNat by omega)
  refine logs_core n o (P2 o.toNat) (n / P2 o.toNat * P2 o.toNat) (P2 (LG n)) (LG n) h1 h2 h3 h4 hl hQ hQ2 ha.1 ha.2 ?_ (by simp) (LG_hi n (by omega)) hL2 ?_ ?_ ?_ (log_any n (by omega) (by omega)) (align_yes n o (by omega) (by omega) h3 h4) w
  · rw [Int.mul_comm (n / P2 o.toNat)]; omega
  · intro h0
    have hlo := LG_lo n (by omega) (LG n - 1) (by omega)
    have hs := P2_succ (LG n - 1)
    rw [show LG n - 1 + 1 = LG n by omega] at hs
    omega
  · exact IntWalk.wrap64_in _ (show -9223372036854775808 ≤ P2 (LG n) ∧ P2 (LG n) ≤ 9223372036854775807 by omega)
  · exact IntWalk.wrap64_in _ (show -9223372036854775808 ≤ P2 o.toNat ∧ P2 o.toNat ≤ 9223372036854775807 by omega)

theorem logs_any (n o : Int) (w : World) :
    Calls Try.prog 6 #[.int .i64 n, .int .i64 o] w fun e w' => e = .returned (.bool true) ∧ Keep [] w w' := by
  by_cases h : n < 1 ∨ 1073741824 < n ∨ o < 0 ∨ 30 < o
  · exact logs_no n o h w
  · exact logs_yes n o (by omega) (by omega) (by omega) (by omega) w

/-! ### BitsWhole -/
set_option maxRecDepth 100000 in
set_option maxHeartbeats 400000 in
theorem whole_no (x : Nat) (c : Int) (h : c < 1 ∨ 63 < c) (w : World) :
    Calls Try.prog 7 #[.int .u64 x, .int .i64 c] w fun e w' => e = .returned (.bool true) ∧ Keep [] w w' := by
  by_cases h1 : c < 1
  · clear h
    go_enter Try.func7, Try.ntmps7
    go_wp2_with (go_at_call 13; refine (awake_any _).mono ?_; rintro e w1 ⟨rfl, hk⟩)
    go_ret
    exact ⟨rfl, hk⟩
  · have h2 : 63 < c := by omega
    clear h
    go_enter Try.func7, Try.ntmps7
    go_wp2_with (go_at_call 13; refine (awake_any _).mono ?_; rintro e w1 ⟨rfl, hk⟩)
    go_ret
    exact ⟨rfl, hk⟩

set_option maxRecDepth 100000 in
set_option maxHeartbeats 400000 in
theorem whole_yes (x : Nat) (hx : x < 2 ^ 64) (c : Int) (h1 : 1 ≤ c) (h2 : c ≤ 63) (w : World) :
    Calls Try.prog 7 #[.int .u64 x, .int .i64 c] w fun e w' => e = .returned (.bool true) ∧ Keep [] w w' := by
  have o1 : okF 0 c = true := (okF_iff _ _).2 (by omega)
  have o2 : okF c (64 - c) = true := (okF_iff _ _).2 (by omega)
  have hw := whole x c.toNat hx (by omega)
  have hc := cnt_whole x c.toNat (by omega)
  have el : (64 - c).toNat = 64 - c.toNat := by omega
  have hlo : getN x 0 c.toNat < 2 ^ c.toNat := sumB_lt _ _
  have hhi : getN x c.toNat (64 - c.toNat) < 2 ^ (64 - c.toNat) := sumB_lt _ _
  have hlo2 : getN x 0 c.toNat < 2 ^ 64 := Nat.lt_of_lt_of_le hlo (Nat.pow_le_pow_right (by omega) (by omega))
  have hhi2 : getN x c.toNat (64 - c.toNat) < 2 ^ 64 := Nat.lt_of_lt_of_le hhi (Nat.pow_le_pow_right (by omega) (by omega))
  have b1 := cntB_le (getN x 0 c.toNat) 64
  have b2 := cntB_le (getN x c.toNat (64 - c.toNat)) 64
  have b3 := cntB_le x 64
  have g1 := Lib.hid (get_yes x hx 0 c o1)
  have g2 := get_yes x hx c (64 - c) o2
  rw [el] at g2
  have G2 := Lib.hid g2
  have p1 := Lib.hid (put_yes 0 (getN x 0 c.toNat) (by decide) 0 c o1 hlo)
  have p2 := put_yes (putN 0 (getN x 0 c.toNat) 0 c.toNat) (getN x c.toNat (64 - c.toNat)) (putN_lt _ _ _ _) c (64 - c) o2 (by rw [el]; exact hhi)
  rw [el, hw] at p2
  have Q2 := Lib.hid p2
  have n1 := Lib.hid (count_any (getN x 0 c.toNat) hlo2)
  have n2 := Lib.hid (count_any (getN x c.toNat (64 - c.toNat)) hhi2)
  have n3 := Lib.hid (count_any x hx)
  have hcI : ((cntB (getN x 0 c.toNat) 64 : Int) + (cntB (getN x c.toNat (64 - c.toNat)) 64 : Int) == (cntB x 64 : Int)) = true := by rw [← hc]; simp
  clear g2 p2 hw hc hlo hhi hlo2 hhi2 el
  go_enter Try.func7, Try.ntmps7
  go_wp2_with fail
  refine (awake_any _).mono ?_
  rintro _ w1 ⟨rfl, hk⟩
  go_wp2_with fail
  refine (g1.out _).mono ?_
  rintro _ _ ⟨rfl, rfl⟩
  go_wp2_with fail
  refine (G2.out _).mono ?_
  rintro _ _ ⟨rfl, rfl⟩
  go_wp2_with fail
  refine (p1.out _).mono ?_
  rintro _ w2 ⟨rfl, hk2⟩
  go_wp2_with fail
  refine (Q2.out _).mono ?_
  rintro _ w3 ⟨rfl, hk3⟩
  go_wp2_with fail
  refine (n1.out _).mono ?_
  rintro _ _ ⟨rfl, rfl⟩
  go_wp2_with fail
  refine (n2.out _).mono ?_
  rintro _ _ ⟨rfl, rfl⟩
  go_wp2_with fail
  refine (n3.out _).mono ?_
  rintro _ _ ⟨rfl, rfl⟩
  go_wp2
  go_ret
  exact ⟨rfl, by repeat (first | exact Keep.refl _ _ | refine Keep.drew ?_ | refine Keep.drewN ?_ _ | refine Keep.setCell ?_ (by first | (left; simp; done) | (right; simp; done) | (right; omega) | (right; simp; omega)) _ _ | refine Keep.setBlock ?_ (by first | (left; simp; done) | (right; simp; done) | (right; omega) | (right; simp; omega)) _ | refine Keep.alloc ?_ _ | refine Keep.andThen ?_ (by assumption) (by first | (simp; done) | (simp; omega) | (intro x hx; simp at hx; simp; omega)))⟩
end Go.Proofs.Ytpkpdfljhpieaaa
