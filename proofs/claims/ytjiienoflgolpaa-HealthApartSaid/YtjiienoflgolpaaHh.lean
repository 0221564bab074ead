import Derived.Test.YtjiienoflgolpaaHg
namespace Go.Proofs.Ytjiienoflgolpaa
open Go.RowKit
set_option linter.unusedSimpArgs false
set_option linter.unusedVariables false
attribute [local go_sem] ob_alloc ob_drew ob_drewN ob_setCell ob_setBlock objSet_cells obMap_map obClock_map isMapI_map keyI_mk findI_nil findI_cons lookRes_some lookRes_none lookRes_some' lookRes_none' setBlock_alloc mapPut

/-- the part's record is as at first -/
def AI (s : Nat → Int) (n : Nat) : Prop := ∀ j, j < 6 → s (n * 6 + j) = if j < 4 then 1 else 0
theorem AI.start (n : Nat) (hn : n < 8) : AI (h0 8) n := by
  intro j hj; unfold h0
  by_cases h : j < 4
  · rw [if_pos h, if_pos (by omega)]
  · rw [if_neg h, if_neg (by omega)]
theorem AI.set {s : Nat → Int} {n : Nat} (h : AI s n) (q k a : Int) (hq : q ≠ n) : AI (hSetS s q k a) n := by
  unfold hSetS
  by_cases hb : (pkOk q k && aOk a) = true
  · rw [if_pos hb]
    obtain ⟨m, rfl, hn, hk⟩ := pkOk_out (Bool.and_eq_true_iff.1 hb).1
    have hkx := kIx_lt k
    simp only [Int.toNat_natCast]
    intro j hj
    unfold updI; rw [if_neg (by omega)]; exact h j hj
  · rw [if_neg hb]; exact h
theorem AI.on {s : Nat → Int} {n : Nat} (h : AI s n) (q k : Int) (hq : q ≠ n) : AI (onS s q k) n := by
  unfold onS
  by_cases hb : pkOk q k = true
  · rw [if_pos hb]
    obtain ⟨m, rfl, hn, hk⟩ := pkOk_out hb
    simp only [Int.toNat_natCast]
    intro j hj
    have := h j hj
    unfold onY
    split
    · unfold updI; rw [if_neg (by omega), if_neg (by omega)]; exact this
    · unfold updI; rw [if_neg (by omega)]; exact this
  · rw [if_neg hb]; exact h
theorem AI.end {s : Nat → Int} {n : Nat} (h : AI s n) (hn : n < 8) : onR s (n : Int) 10 = (1, 0) ∧ onR (onS s (n : Int) 10) (n : Int) 13 = (1, 0) ∧ countR (onS (onS s (n : Int) 10) (n : Int) 13) (n : Int) = 2 := by
  have hp : ∀ k, kOk k = true → pkOk (n : Int) k = true := by intro k hk; unfold pkOk pOk; rw [hk]; simp; omega
  have h10 := hp 10 rfl
  have h13 := hp 13 rfl
  have hpn : pOk (n : Int) = true := by unfold pOk; simp; omega
  have a1 := h 1 (by omega)
  have a3 := h 3 (by omega)
  have a4 := h 4 (by omega)
  simp only [show ¬ (4 : Nat) < 4 by omega, show (1 : Nat) < 4 by omega, show (3 : Nat) < 4 by omega, if_true, if_false] at a1 a3 a4
  have e1 : onS s (n : Int) 10 = updI s (n * 6 + 4) 1 := by
    unfold onS; rw [if_pos h10]; simp only [Int.toNat_natCast]; rw [show kIx 10 = 1 from rfl, a1]; unfold onY; rw [if_neg (fun a => absurd a.1 (by decide)), a4]; rfl
  have e2 : onS (updI s (n * 6 + 4) 1) (n : Int) 13 = updI (updI s (n * 6 + 4) 1) (n * 6 + 4) 2 := by
    unfold onS; rw [if_pos h13]; simp only [Int.toNat_natCast]; rw [show kIx 13 = 3 from rfl]
    have : updI s (n * 6 + 4) 1 (n * 6 + 3) = 1 := by unfold updI; rw [if_neg (by omega)]; exact a3
    rw [this]; unfold onY; rw [if_neg (fun a => absurd a.1 (by decide))]
    have : updI s (n * 6 + 4) 1 (n * 6 + 4) = 1 := by unfold updI; simp
    rw [this]; rfl
  refine ⟨?_, ?_, ?_⟩
  · unfold onR; rw [if_pos h10]; simp only [Int.toNat_natCast]; rw [show kIx 10 = 1 from rfl, a1]; rfl
  · rw [e1]; unfold onR; rw [if_pos h13]; simp only [Int.toNat_natCast]; rw [show kIx 13 = 3 from rfl]
    have : updI s (n * 6 + 4) 1 (n * 6 + 3) = 1 := by unfold updI; rw [if_neg (by omega)]; exact a3
    rw [this]; rfl
  · rw [e1, e2]; unfold countR; rw [if_pos hpn]; simp only [Int.toNat_natCast]; unfold updI; simp

set_option maxRecDepth 100000 in
set_option maxHeartbeats 3000000 in
theorem apart23 (W0 : World) (v0 : Value) (xs : List (List Value)) (hv : RdA W0 4 v0 xs) (hx : ∀ c ∈ xs, GCells W0 [.int .i64, .int .i64, .int .i64, .int .i64] c) (part : Int) :
    Calls Try.prog 7 #[v0, .int .i64 part] W0 fun o w' => o = .returned (.bool true) ∧ Keep [] W0 w' := by
  obtain ⟨a0, cap0, rfl, hc1, hc2⟩ := hv.len
  unfold maxLen at hc2
  by_cases hg : xs.length ≤ 60 ∧ 0 ≤ part ∧ part ≤ 7
  · obtain ⟨h60, hpa, hpb⟩ := hg
    obtain ⟨n, rfl⟩ := Int.eq_ofNat_of_zero_le hpa
    have hn : n < 8 := by omega
    clear hpa
    go_enter Try.func7, Try.ntmps7
    go_wp2_with fail
    refine (awake23 W0).mono ?_
    rintro _ w1 ⟨rfl, hk1⟩
    go_wp2_with fail
    refine (hNew w1).mono ?_
    rintro _ w2 ⟨rfl, hM2, hk2, hs2⟩
    have hk : Keep [] W0 w2 := hk1.trans hk2
    have hp0 : W0.heap.size ≤ w1.heap.size := hk1.size
    generalize w1.heap.size = p at *
    clear hk1 hk2
    go_wp2_with fail
    have lxs := Lib.hid h60
    clear h60
    go_loopw [7] (fun i wr => ∃ (k : Nat) (s : Nat → Int), i = .int .i64 k ∧ k ≤ xs.length ∧ HMon wr p s ∧ AI s n ∧ Keep [] W0 wr) (fun i _ => 60 - (intOf i).toNat)
    case atStart => exact ⟨0, _, rfl, by omega, hM2, AI.start n hn, hk⟩
    case round =>
      obtain ⟨k, s, rfl, hkn, hM, hr, hkp⟩ := hrel
      clear hM2 hk
      by_cases hlt : k < xs.length
      · obtain ⟨b, off, cap', hveq, hb, hcells⟩ := (hv.keep hkp (by simp)).2 (by omega)
        simp only [Value.slice.injEq, true_and] at hveq
        obtain ⟨rfl, rfl⟩ := hveq
        have hxk : xs[k]? = some xs[k] := List.getElem?_eq_getElem hlt
        obtain ⟨hc3, hrange⟩ := hcells k _ hxk
        obtain ⟨_, _, hxe, ⟨d, rfl, wd⟩, _, _, rfl, ⟨q, rfl, wq⟩, _, _, rfl, ⟨a, rfl, wa⟩, _, _, rfl, ⟨kd, rfl, wk⟩, rfl⟩ := hx _ (List.getElem_mem hlt)
        rw [hxe] at hrange
        have l0 := hrange 0 _ rfl
        have l1 := hrange 1 _ rfl
        have l2 := hrange 2 _ rfl
        have l3 := hrange 3 _ rfl
        rw [Nat.add_zero] at l0
        clear hv hx hcells hxk hrange hc3 hxe wd wq wa wk
        generalize xs.length = l at *
        have lM := ob_lt hM
        have h60 := lxs.out
        have hM4 : HMon (wr.alloc (.cells #[.int .i64 d, .int .i64 q, .int .i64 a, .int .i64 kd] 62)) p s := al hM
        have hB4 := al_new wr (.cells #[.int .i64 d, .int .i64 q, .int .i64 a, .int .i64 kd] 62) rfl
        have hk4 : Keep [] W0 (wr.alloc (.cells #[.int .i64 d, .int .i64 q, .int .i64 a, .int .i64 kd] 62)) := hkp.alloc _
        clear hM
        by_cases hqn : q = n
        · subst hqn
          have H4 := Lib.hid (And.intro hM4 hk4)
          clear hM4 hk4 hB4
          go_wp2
          go_roundw
          case rel => exact ⟨k + 1, _, by go_num, by omega, H4.out.1, hr, H4.out.2⟩
          case measure => simp [intOf]; omega
        · have eq : (q == (n : Int)) = false := by simpa using hqn
          by_cases hd0 : d = 0
          · subst hd0
            have hr2 := Lib.hid (hr.set q kd a hqn)
            clear hr
            go_wp2_with fail
            generalize wr.alloc (.cells #[.int .i64 0, .int .i64 q, .int .i64 a, .int .i64 kd] 62) = w4 at *
            refine (hSet w4 p s hM4 q kd a).mono ?_
            rintro _ w5 ⟨rfl, hM5, hk5⟩
            have H5 := Lib.hid (And.intro hM5 (hk4.andThen hk5 (by simp; omega)))
            clear hM5 hM4 hk4 hk5 hB4
            go_wp2
            go_roundw
            case rel => exact ⟨k + 1, _, by go_num, by omega, H5.out.1, hr2.out, H5.out.2⟩
            case measure => simp [intOf]; omega
          · have e0 : (d == 0) = false := by simp; omega
            have hr2 := Lib.hid (hr.on q kd hqn)
            clear hr
            go_wp2_with fail
            generalize wr.alloc (.cells #[.int .i64 d, .int .i64 q, .int .i64 a, .int .i64 kd] 62) = w4 at *
            refine (hOn w4 p s hM4 q kd).mono ?_
            rintro _ w5 ⟨rfl, hM5, hk5⟩
            have H5 := Lib.hid (And.intro hM5 (hk4.andThen hk5 (by simp; omega)))
            clear hM5 hM4 hk4 hk5 hB4
            go_wp2
            go_roundw
            case rel => exact ⟨k + 1, _, by go_num, by omega, H5.out.1, hr2.out, H5.out.2⟩
            case measure => simp [intOf]; omega
      · generalize xs.length = l at *
        clear hv hx
        obtain ⟨f1, f2, f3⟩ := hr.end hn
        clear hr
        go_wp2_with fail
        refine (hOn wr p s hM n 10).mono ?_
        rintro _ w5 ⟨rfl, hM5, hk5⟩
        rw [f1]
        go_wp2_with fail
        refine (hOn w5 p _ hM5 n 13).mono ?_
        rintro _ w6 ⟨rfl, hM6, hk6⟩
        rw [f2]
        go_wp2_with fail
        refine (hCount w6 p _ hM6 n).mono ?_
        rintro _ w7 ⟨rfl, rfl⟩
        rw [f3]
        have hk7 := (hkp.andThen hk5 (by simp; omega)).andThen hk6 (by simp; omega)
        clear f1 f2 f3 hM hM5 hM6 hkp hk5 hk6
        go_wp2
        go_ret
        exact ⟨rfl, hk7⟩
  · generalize xs.length = l at *
    rcases (show 60 < l ∨ (l ≤ 60 ∧ part < 0) ∨ (l ≤ 60 ∧ ¬ part < 0 ∧ 7 < part) by omega) with h | h | h
    all_goals
      clear hg hv hx
      go_enter Try.func7, Try.ntmps7
      go_wp2_with fail
      refine (awake23 W0).mono ?_
      rintro _ w1 ⟨rfl, hk1⟩
      go_wp2_with fail
      refine (hNew w1).mono ?_
      rintro _ w2 ⟨rfl, hM2, hk2, hs2⟩
      have hk : Keep [] W0 w2 := hk1.trans hk2
      clear hM2 hk1 hk2
      go_wp2
      go_ret
      exact ⟨rfl, hk⟩
end Go.Proofs.Ytjiienoflgolpaa
