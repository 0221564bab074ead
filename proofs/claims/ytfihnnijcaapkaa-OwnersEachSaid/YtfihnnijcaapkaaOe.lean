import Derived.Test.YtfihnnijcaapkaaOd
namespace Go.Proofs.Ytfihnnijcaapkaa
open Go.RowKit
set_option linter.unusedSimpArgs false
set_option linter.unusedVariables false
attribute [local go_sem] ob_alloc ob_drew ob_drewN ob_setCell ob_setBlock objSet_cells obMap_map obClock_map isMapI_map keyI_mk findI_nil findI_cons lookRes_some lookRes_none lookRes_some' lookRes_none' setBlock_alloc mapPut

theorem q_same {P : Program} {f : FuncId} {args : Array Value} {w : World} {n : Nat} {v : Value} (h : Calls P f args (w.drewN n) fun e w' => e = .returned v ∧ w.drewN n = w') : Calls P f args (w.drewN n) fun e w'' => e = .returned v ∧ ∃ m, w'' = w.drewN m :=
  Calls.quiet_of_same (h.mono fun _ _ ⟨a, b⟩ => ⟨a, b.symm⟩)
/-! ### the reference's -/
set_option maxRecDepth 100000 in
set_option maxHeartbeats 400000 in
theorem roAre (w : World) (o g n : Nat) (L M : Nat → Int) (hO : ROAt w o g n L M) (hn : n ≤ 256) (f m : Int) : Calls Try.prog 49 #[.pointer (some ⟨o, 0, none⟩), .int .i64 f, .int .i64 m] w fun e w' => e = .returned (.bool (areB n f m)) ∧ w = w' := by
  have c0 := hO.c0
  clear hO
  cases ha : areB n f m with
  | false =>
    rcases areB_no ha with h | ⟨h, h2⟩ | ⟨h, h2, h3⟩ | ⟨h, h2, h3, h4⟩
    · clear ha
      go_enter Try.func49, Try.ntmps49
      go_wp2
      go_ret
      exact ⟨rfl, rfl⟩
    · have d1 : decide (m ≤ (n : Int)) = false := by simp; omega
      clear ha
      go_enter Try.func49, Try.ntmps49
      go_wp2
      go_ret
      exact ⟨rfl, rfl⟩
    · have d1 : decide (0 ≤ f) = false := by simp; omega
      clear ha
      go_enter Try.func49, Try.ntmps49
      go_wp2
      go_ret
      exact ⟨rfl, rfl⟩
    · have d1 : decide (f ≤ (n : Int) - m) = false := by simp; omega
      clear ha
      go_enter Try.func49, Try.ntmps49
      go_wp2
      go_ret
      exact ⟨rfl, rfl⟩
  | true =>
    obtain ⟨F, K, rfl, rfl, h1, h2⟩ := areB_out ha
    have s1 : (1 : Int) ≤ (K : Int) := by omega
    have s2 : (K : Int) ≤ (n : Int) := by omega
    have s3 : (F : Int) ≤ (n : Int) - (K : Int) := by omega
    have s4 : K ≤ n := by omega
    clear ha
    go_enter Try.func49, Try.ntmps49
    go_wp2
    go_ret
    exact ⟨rfl, rfl⟩
set_option maxRecDepth 100000 in
set_option maxHeartbeats 400000 in
theorem roOf (w : World) (o g n : Nat) (L M : Nat → Int) (hO : ROAt w o g n L M) (hn : n ≤ 256) (f : Int) : Calls Try.prog 35 #[.pointer (some ⟨o, 0, none⟩), .int .i64 f] w fun e w' => e = .returned (.int .i64 (ofR n L f)) ∧ w = w' := by
  have c0 := hO.c0
  have hc : f < 0 ∨ (0 ≤ f ∧ (n : Int) ≤ f) ∨ (0 ≤ f ∧ f < (n : Int)) := by omega
  rcases hc with h | ⟨h, h2⟩ | ⟨h, h2⟩
  · have e : ofR n L f = -1 := by unfold ofR; rw [if_neg (by omega)]
    rw [e]; clear e hO
    go_enter Try.func35, Try.ntmps35
    go_wp2
    go_ret
    exact ⟨rfl, rfl⟩
  · have e : ofR n L f = -1 := by unfold ofR; rw [if_neg (by omega)]
    rw [e]; clear e hO
    go_enter Try.func35, Try.ntmps35
    go_wp2
    go_ret
    exact ⟨rfl, rfl⟩
  · obtain ⟨k, rfl⟩ := Int.eq_ofNat_of_zero_le h
    have hk : k < n := by omega
    have e : ofR n L (k : Int) = L k := by unfold ofR; rw [if_pos (by omega)]; rfl
    have ck := hO.cL hk
    rw [e]; clear e hO
    go_enter Try.func35, Try.ntmps35
    go_wp2
    go_ret
    exact ⟨rfl, rfl⟩
theorem countR_eq {n : Nat} {L M H : Nat → Int} (h : OInv n L M H) (x : Int) : countR n L x = if 0 ≤ x then ocnt L x n else 0 := by
  unfold countR
  by_cases h0 : 0 ≤ x
  · rw [if_pos h0]
    by_cases h8 : x ≤ 8
    · rw [if_pos (by unfold mayB; simp; omega)]
    · rw [if_neg (by unfold mayB; simp; omega), h.far (by omega)]
  · rw [if_neg h0, if_neg (by unfold mayB; simp; omega)]
set_option maxRecDepth 100000 in
set_option maxHeartbeats 400000 in
theorem roCount (w : World) (o g n : Nat) (L M H : Nat → Int) (hO : ROAt w o g n L M) (hI : OInv n L M H) (x : Int) : Calls Try.prog 37 #[.pointer (some ⟨o, 0, none⟩), .int .i64 x] w fun e w' => e = .returned (.int .i64 (countR n L x)) ∧ w = w' := by
  have c0 := hO.c0
  have hn2 := hI.n2
  rw [countR_eq hI]
  by_cases h0 : 0 ≤ x
  · rw [if_pos h0]
    go_enter Try.func37, Try.ntmps37
    go_wp2_with fail
    go_loopg [5, 6] n (fun gn c i wr => ∃ k : Nat, i = .int .i64 k ∧ k ≤ n ∧ gn = n - k ∧ c = .int .i64 (ocnt L x k) ∧ w = wr)
    case atStart => exact ⟨0, rfl, by omega, by omega, rfl, rfl⟩
    case round =>
      obtain ⟨k, rfl, hk, rfl, rfl, rfl⟩ := hrel
      have hb := ocnt_bd L x k
      by_cases hlt : k < n
      · have ck := hO.cL hlt
        by_cases hx : L k = x
        · have HC : Hid (ocnt L x (k + 1) = ocnt L x k + 1) := Lib.hid (by rw [ocnt_succ, if_pos hx])
          rw [hx] at ck
          clear hx hO hI
          go_wp2
          go_roundg (n - (k + 1))
          case measure => omega
          case rel => exact ⟨k + 1, by go_num, by omega, rfl, by rw [HC.out], rfl⟩
        · have HC : Hid (ocnt L x (k + 1) = ocnt L x k) := Lib.hid (by rw [ocnt_succ, if_neg hx]; omega)
          have hx2 : (L k == x) = false := by simpa using hx
          generalize L k = y at *
          clear hx hO hI
          go_wp2
          go_roundg (n - (k + 1))
          case measure => omega
          case rel => exact ⟨k + 1, by go_num, by omega, rfl, by rw [HC.out], rfl⟩
      · obtain rfl : k = n := by omega
        clear hO hI
        go_wp2
        go_ret
        exact ⟨rfl, rfl⟩
  · rw [if_neg h0]
    have h0' : decide (0 ≤ x) = false := by simpa using h0
    go_enter Try.func37, Try.ntmps37
    go_wp2_with fail
    go_loopg [5, 6] n (fun gn c i wr => ∃ k : Nat, i = .int .i64 k ∧ k ≤ n ∧ gn = n - k ∧ c = .int .i64 0 ∧ w = wr)
    case atStart => exact ⟨0, rfl, by omega, by omega, rfl, rfl⟩
    case round =>
      obtain ⟨k, rfl, hk, rfl, rfl, rfl⟩ := hrel
      by_cases hlt : k < n
      · have ck := hO.cL hlt
        by_cases hx : L k = x
        · rw [hx] at ck
          clear hx hO hI
          go_wp2
          go_roundg (n - (k + 1))
          case measure => omega
          case rel => exact ⟨k + 1, by go_num, by omega, rfl, rfl, rfl⟩
        · have hx2 : (L k == x) = false := by simpa using hx
          generalize L k = y at *
          clear hx hO hI
          go_wp2
          go_roundg (n - (k + 1))
          case measure => omega
          case rel => exact ⟨k + 1, by go_num, by omega, rfl, rfl, rfl⟩
      · obtain rfl : k = n := by omega
        clear hO hI
        go_wp2
        go_ret
        exact ⟨rfl, rfl⟩
set_option maxRecDepth 100000 in
set_option maxHeartbeats 800000 in
theorem roQuota (w : World) (o g n : Nat) (L M H : Nat → Int) (hO : ROAt w o g n L M) (hI : OInv n L M H) (x t : Int) : Calls Try.prog 34 #[.pointer (some ⟨o, 0, none⟩), .int .i64 x, .int .i64 t] w fun e w' => e = .returned (.int .i64 (quotaR n L x t)) ∧ ROAt w' o g n L (quotaM n L M x t) ∧ Keep [o] w w' := by
  have hk0 := Keep.refl [o] w
  have HO := Lib.hid hO
  by_cases hy : mayB x = true ∧ 0 ≤ t ∧ t ≤ 256
  · obtain ⟨hm, h, h2⟩ := hy
    obtain ⟨k, rfl, hk⟩ := mayB_out hm
    have hk8 : k ≤ 8 := by omega
    have hcc := roCount w o g n L M H hO hI k
    unfold countR at hcc
    rw [if_pos hm] at hcc
    by_cases h3 : t < ocnt L k n
    · have e1 : quotaR n L k t = 12 := by unfold quotaR; rw [if_pos ⟨hm, h, h2⟩, if_pos (by omega)]
      have e2 : quotaM n L M k t = M := by unfold quotaM; rw [e1]; simp
      rw [e1, e2]
      generalize ocnt L k n = y at *
      clear e1 e2 hO hI hm
      go_enter Try.func34, Try.ntmps34
      go_wp2_with fail
      refine hcc.mono ?_
      rintro _ w2 ⟨rfl, rfl⟩
      clear hcc
      go_wp2
      go_ret
      exact ⟨rfl, HO.out, hk0⟩
    · have e1 : quotaR n L k t = 0 := by unfold quotaR; rw [if_pos ⟨hm, h, h2⟩, if_neg (by omega)]
      have e2 : quotaM n L M k t = updW M k t := by unfold quotaM; rw [if_pos e1]; rfl
      have cm := hO.cM hk
      have fm := free_of_ob hO.ho
      rw [e1, e2]
      have H2 := Lib.hid (And.intro (hO.setM hk t) (hk0.setCell (.inl (by simp)) (b := o) (1 + k) (.int .i64 t)))
      generalize ocnt L k n = y at *
      clear e1 e2 hO hI HO hm
      go_enter Try.func34, Try.ntmps34
      go_wp2_with fail
      refine hcc.mono ?_
      rintro _ w2 ⟨rfl, rfl⟩
      clear hcc
      go_wp2
      go_ret
      exact ⟨rfl, H2.out.1, H2.out.2⟩
  · have e1 : quotaR n L x t = 1 := by unfold quotaR; rw [if_neg hy]
    have e2 : quotaM n L M x t = M := by unfold quotaM; rw [e1]; simp
    rw [e1, e2]
    have hc : x < 0 ∨ (0 ≤ x ∧ 8 < x) ∨ (0 ≤ x ∧ x ≤ 8 ∧ t < 0) ∨ (0 ≤ x ∧ x ≤ 8 ∧ 0 ≤ t ∧ 256 < t) := by
      by_cases hm : mayB x = true
      · obtain ⟨k, rfl, hk⟩ := mayB_out hm
        have : ¬ (0 ≤ t ∧ t ≤ 256) := fun h => hy ⟨hm, h⟩
        omega
      · have : ¬ (0 ≤ x ∧ x ≤ 8) := fun h => hm (by unfold mayB; simpa using h)
        omega
    clear e1 e2 hO hI hy
    rcases hc with h | ⟨h, h2⟩ | ⟨h, h2, h3⟩ | ⟨h, h2, h3, h4⟩
    all_goals
      go_enter Try.func34, Try.ntmps34
      go_wp2
      go_ret
      exact ⟨rfl, HO.out, hk0⟩
end Go.Proofs.Ytfihnnijcaapkaa
