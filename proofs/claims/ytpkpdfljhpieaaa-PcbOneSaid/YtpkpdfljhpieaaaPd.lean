import Derived.Test.YtpkpdfljhpieaaaPc
namespace Go.Proofs.Ytpkpdfljhpieaaa
open Go.RowKit
set_option linter.unusedSimpArgs false
set_option linter.unusedVariables false
attribute [local go_sem] ob_alloc ob_drew ob_drewN ob_setCell ob_setBlock objSet_cells obMap_map obClock_map isMapI_map keyI_mk findI_nil findI_cons lookRes_some lookRes_none lookRes_some' lookRes_none' setBlock_alloc mapPut

/-! ### Do -/
def doR (S : Nat → Int) (q a : Int) : Int := if pOk q = true then (nx (S q.toNat) a).2 else 1
def doS (S : Nat → Int) (q a : Int) : Nat → Int := if pOk q = true then if (nx (S q.toNat) a).2 = 0 then updW S q.toNat (nx (S q.toNat) a).1 else S else S
def doG (S : Nat → Int) (R : Nat → Nat → Int) (q a : Int) : Nat → Nat → Int := if pOk q = true then if (nx (S q.toNat) a).2 = 0 ∧ (a = 1 ∨ a = 5) then updG R q.toNat (fun _ => 0) else R else R
theorem ff9 : (Value.agg #[.int .u64 0, .int .u64 0, .int .u64 0, .int .u64 0, .int .u64 0, .int .u64 0, .int .u64 0, .int .u64 0, .int .u64 0]) = .agg (blk (vU fun _ => 0) 9) := rfl
set_option maxRecDepth 100000 in
set_option maxRecDepth 100000 in
set_option maxHeartbeats 800000 in
theorem pDo (w : World) (p : Nat) (S : Nat → Int) (R : Nat → Nat → Int) (hB : BAt w p S R) (q a : Int) : Calls Try.prog 30 #[.pointer (some ⟨p, 0, none⟩), .int .i64 q, .int .i64 a] w fun o w' => o = .returned (.int .i64 (doR S q a)) ∧ BAt w' p (doS S q a) (doG S R q a) ∧ Keep [p] w w' := by
  unfold doR doS doG
  have hk0 := Keep.refl [p] w
  cases ho : pOk q with
  | false =>
    simp only [Bool.false_eq_true, if_false]
    go_enter Try.func30, Try.ntmps30
    go_wp2_with fail
    refine (pOf_no w p q ho).mono ?_
    rintro _ w2 ⟨rfl, rfl⟩
    have H2 := Lib.hid hB
    clear ho hB
    go_wp2
    go_ret
    exact ⟨rfl, H2.out, hk0⟩
  | true =>
    obtain ⟨n, rfl, hn⟩ := pOk_out ho
    have c0 := hB.state n hn
    simp only [if_true, Int.toNat_natCast]
    obtain ⟨s, hs⟩ : ∃ s, s = S n := ⟨_, rfl⟩
    rw [← hs] at c0 ⊢
    obtain ⟨v, hv⟩ : ∃ v, v = nx s a := ⟨_, rfl⟩
    rw [← hv]
    have HV := Lib.hid hv
    clear hs hv
    by_cases h0 : v.2 = 0
    · have fr := free_of_ob hB
      rw [h0]
      by_cases ha : a = 1 ∨ a = 5
      · rw [if_pos rfl, if_pos ⟨rfl, ha⟩]
        rcases ha with rfl | rfl
        all_goals
          go_enter Try.func30, Try.ntmps30
          go_wp2_with fail
          refine (pOf_yes w p n hn).mono ?_
          rintro _ w2 ⟨rfl, rfl⟩
          go_wp2_with fail
          refine (pNext w s _).mono ?_
          rintro _ w2 ⟨rfl, hk2⟩
          rw [← HV.out, h0]
          have hB2 := hB.keep hk2 (by simp)
          have hB3 := hB2.setS n hn v.1
          have hk3 : Keep [p] w (w2.setCell ⟨p, n * 10, none⟩ (.int .i64 v.1)) := (hk2.mono (by simp)).setCell (.inl (by simp)) _ _
          have c2 := hB2.state n hn
          have fr2 := free_of_ob hB2
          have t3 := hB3.there n hn
          obtain ⟨wz, hwz⟩ : ∃ wz, wz = w2.setCell ⟨p, n * 10, none⟩ (.int .i64 v.1) := ⟨_, rfl⟩
          have H4 := Lib.hid (And.intro (hB3.setR n hn (fun _ => 0)) (hk3.setCells (.inl (by simp)) (b := p) (blk (vU fun _ => 0) 9).toList (n * 10 + 1)))
          have T3 := Lib.hid t3
          have HWZ := Lib.hid hwz
          clear hB hB2 hB3 hk3 hk2 hk0 t3 ho hwz
          go_wp2_with (refine wpList_store_mid rfl 47 (.tmp 40) (.tmp 38) rfl p (n * 10 + 1) (blk (vU fun _ => 0) 9) rfl rfl (by rw [blk_size]; exact T3.out) (siz9 _) (one9 _) ?_)
          go_ret
          exact ⟨rfl, H4.out.1, H4.out.2⟩
      · rw [if_pos rfl, if_neg (fun x => ha x.2)]
        have a1 : (a == 1) = false := by simp; omega
        have a5 : (a == 5) = false := by simp; omega
        go_enter Try.func30, Try.ntmps30
        go_wp2_with fail
        refine (pOf_yes w p n hn).mono ?_
        rintro _ w2 ⟨rfl, rfl⟩
        go_wp2_with fail
        refine (pNext w s _).mono ?_
        rintro _ w2 ⟨rfl, hk2⟩
        rw [← HV.out, h0]
        have hB2 := hB.keep hk2 (by simp)
        have c2 := hB2.state n hn
        have fr2 := free_of_ob hB2
        have H4 := Lib.hid (And.intro (hB2.setS n hn v.1) ((hk2.mono (T := [p]) (by simp)).setCell (.inl (by simp)) (b := p) (n * 10) (.int .i64 v.1)))
        clear hB hB2 hk2 hk0 ho ha
        go_wp2
        go_ret
        exact ⟨rfl, H4.out.1, H4.out.2⟩
    · rw [if_neg h0, if_neg (fun x => h0 x.1)]
      have h0' : (v.2 != 0) = true := by simpa using h0
      go_enter Try.func30, Try.ntmps30
      go_wp2_with fail
      refine (pOf_yes w p n hn).mono ?_
      rintro _ w2 ⟨rfl, rfl⟩
      go_wp2_with fail
      refine (pNext w s _).mono ?_
      rintro _ w2 ⟨rfl, hk2⟩
      rw [← HV.out]
      have H4 := Lib.hid (And.intro (hB.keep hk2 (by simp)) (hk2.mono (T := [p]) (by simp)))
      clear hB hk2 hk0 ho h0
      go_wp2
      go_ret
      exact ⟨rfl, H4.out.1, H4.out.2⟩
end Go.Proofs.Ytpkpdfljhpieaaa
