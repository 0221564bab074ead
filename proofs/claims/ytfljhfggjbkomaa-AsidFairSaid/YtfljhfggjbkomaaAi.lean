import Derived.Test.YtfljhfggjbkomaaAh
import Derived.Deep.RegionHeld3
namespace Go.Proofs.Ytfljhfggjbkomaa
open Go.RowKit
set_option linter.unusedSimpArgs false
set_option linter.unusedVariables false
attribute [local go_sem] ob_alloc ob_drew ob_drewN ob_setCell ob_setBlock objSet_cells obMap_map obClock_map isMapI_map keyI_mk findI_nil findI_cons lookRes_some lookRes_none lookRes_some' lookRes_none' setBlock_alloc mapPut
attribute [local go_sem ↓] eql93 neq93 eql98 neq98

/-- how often each was given behind i rounds -/
def fairOs (n i : Nat) : List Int := (List.range n).map fun j => ((i / n + if j < i % n then 1 else 0 : Nat) : Int)
def fairB (n i : Nat) : Bool :=
  (bestK (fairOs n i) (List.replicate n false) n == some (i % n)) && ((fairOs n i).set (i % n) (inc ((fairOs n i).getD (i % n) 0)) == fairOs n (i + 1)) && (inc ((fairOs n i).getD (i % n) 0) == (i / n : Nat) + 1) &&
    (((List.replicate n false).set (i % n) true).set (i % n) false == List.replicate n false) && livesB (fairOs n (i + 1)) ((List.replicate n false).set (i % n) true) ((i % n : Nat) + 1) ((i / n : Nat) + 1)
theorem fair_all : ((List.range 8).all fun n => (List.range 100).all fun i => fairB (n + 1) i) = true := by decide +kernel
theorem fair_one {n i : Nat} (h1 : 1 ≤ n) (h2 : n ≤ 8) (h3 : i < 100) : fairB n i = true := by
  have h := fair_all
  rw [List.all_eq_true] at h
  have h4 := h (n - 1) (by simp; omega)
  rw [List.all_eq_true] at h4
  have h5 := h4 i (by simpa using h3)
  rwa [show n - 1 + 1 = n by omega] at h5
theorem fair_start {n : Nat} (h1 : 1 ≤ n) (h2 : n ≤ 8) : fairOs n 0 = List.replicate n 0 := by
  have h : ((List.range 8).all fun n => fairOs (n + 1) 0 == List.replicate (n + 1) 0) = true := by decide +kernel
  rw [List.all_eq_true] at h
  have h4 := h (n - 1) (by simp; omega)
  rw [show n - 1 + 1 = n by omega] at h4
  simpa using h4
theorem fair_len (n i : Nat) : (fairOs n i).length = n := by simp [fairOs]

set_option maxRecDepth 100000 in
set_option maxHeartbeats 2000000 in
theorem fair10 (w : World) (many n : Int) : Calls Try.prog 11 #[.int .i64 many, .int .i64 n] w fun o w' => o = .returned (.bool true) ∧ Keep [] w w' := by
  cases hok : okMany many with
  | false =>
    go_enter Try.func11, Try.ntmps11
    go_wp2_with fail
    refine (awake10 w).mono ?_
    rintro _ w1 ⟨rfl, hk1⟩
    go_wp2_with fail
    refine (aNew_no many hok w1).mono ?_
    rintro _ _ ⟨rfl, rfl⟩
    clear hok
    go_wp2
    go_ret
    exact ⟨rfl, hk1⟩
  | true =>
    have hm : 1 ≤ many ∧ many ≤ 8 := by simpa [okMany] using hok
    clear hok
    obtain ⟨m, rfl⟩ := Int.eq_ofNat_of_zero_le (a := many) (by omega)
    have m1 : 1 ≤ m := by omega
    have m8 : m ≤ 8 := by omega
    clear hm
    go_enter Try.func11, Try.ntmps11
    go_wp2_with fail
    refine (awake10 w).mono ?_
    rintro _ w1 ⟨rfl, hk1⟩
    have hs1 := hk1.size
    go_wp2_with fail
    refine (aNew_ok m m1 m8 w1 (List.range w.heap.size ++ []) (by simp; omega)).mono ?_
    rintro _ w2 ⟨rfl, hP2, hk2, hs2⟩
    obtain ⟨p, hp⟩ : ∃ p, p = w1.heap.size + 2 := ⟨_, rfl⟩
    rw [← hp] at hP2 ⊢
    have hp2 : p < w2.heap.size := by omega
    have hpw : w.heap.size ≤ p := by omega
    have hk02 := hk1.trans hk2
    clear hp hs2
    rw [← fair_start m1 m8] at hP2
    by_cases hn : 0 ≤ n ∧ n ≤ 100
    · obtain ⟨k, rfl⟩ := Int.eq_ofNat_of_zero_le hn.1
      have hk100 : k ≤ 100 := by omega
      clear hn
      go_wp2_with fail
      go_loopw [8] (fun i wr => ∃ j : Nat, j ≤ k ∧ i = .int .i64 j ∧ p < wr.heap.size ∧ PoolAt wr p (List.range w.heap.size ++ []) (fairOs m j) (List.replicate m false) ∧ Keep [] w wr) (fun i _ => k - (intOf i).toNat)
      case atStart => exact ⟨0, by omega, rfl, hp2, hP2, hk02⟩
      case round =>
        obtain ⟨j, hjk, rfl, hpr, hPr, hkr⟩ := hrel
        by_cases hlt : j < k
        · have hf := fair_one m1 m8 (show j < 100 by omega)
          simp only [fairB, Bool.and_eq_true, beq_iff_eq] at hf
          obtain ⟨⟨⟨⟨f1, f2⟩, f3⟩, f4⟩, f5⟩ := hf
          go_wp2_with fail
          refine (aTake wr p _ hpr _ _ hPr).mono ?_
          intro o3 w3 h3
          obtain ⟨rfl, hP3, hF3⟩ := takeQ_some h3 (by rw [fair_len]; exact f1)
          rw [f2] at hP3
          rw [f3]
          simp only [tagV]
          have hk3 : Keep [] w w3 := Far.base hF3 rfl hkr
          have lp3 : p < w3.heap.size := Nat.lt_of_lt_of_le hpr (Far.size hF3)
          have hb3 := hk3.size
          have t1 : (j : Int).tmod (m : Int) = ((j % m : Nat) : Int) := by rw [Int.tmod_eq_emod_of_nonneg (by omega)]; rfl
          have t2 : (j : Int).tdiv (m : Int) = ((j / m : Nat) : Int) := by rw [Int.tdiv_eq_ediv_of_nonneg (by omega)]; rfl
          have b1 : j % m ≤ 7 := by have := Nat.mod_lt j (show 0 < m by omega); omega
          have b2 : j / m ≤ 100 := by have := Nat.div_le_self j m; omega
          have d1 : ((m : Int) == 0) = false := by simp; omega
          have d2 : (m : Int) ≠ 0 := by omega
          have d3 : ¬ m = 0 := by omega
          have d4 : (m == 0) = false := by simp; omega
          have d5 : ((m : Int) = 0) = False := by simp; omega
          have F4 := Lib.hid f4
          have F5 := Lib.hid f5
          clear f1 f2 f3 f4 f5 h3 hPr hP2
          generalize j % m = r at *
          generalize j / m = q at *
          have s1 : IntKind.i64.wrap ((r : Int) + 1) = (r : Int) + 1 := IntWalk.i64_in _ (by omega)
          have s2 : IntKind.i64.wrap ((q : Int) + 1) = (q : Int) + 1 := IntWalk.i64_in _ (by omega)
          have s3 : IntKind.i64.wrap (r : Int) = (r : Int) := IntWalk.i64_in _ (by omega)
          have s4 : IntKind.i64.wrap (q : Int) = (q : Int) := IntWalk.i64_in _ (by omega)
          have hP4 : PoolAt (w3.alloc (.cells #[.int .i64 ((r : Int) + 1), .int .i64 ((q : Int) + 1)] 93)) p (List.range w.heap.size ++ [w3.heap.size]) (fairOs m (j + 1)) ((List.replicate m false).set r true) :=
            (hP3.addL (L' := List.range w.heap.size ++ [w3.heap.size]) (by simp; omega)).keep (S := []) ((Keep.refl _ _).alloc _) (by simp) (by simp)
          have e4 := al_new w3 (.cells #[.int .i64 ((r : Int) + 1), .int .i64 ((q : Int) + 1)] 93) rfl
          have hk4 : Keep [] w (w3.alloc (.cells #[.int .i64 ((r : Int) + 1), .int .i64 ((q : Int) + 1)] 93)) := hk3.alloc _
          have hpa : p ≠ w3.heap.size := by omega
          have la4 := ob_lt e4
          go_wp2_with fail
          generalize w3.alloc (.cells #[.int .i64 ((r : Int) + 1), .int .i64 ((q : Int) + 1)] 93) = w4 at *
          generalize w3.heap.size = a at *
          have c4 := cell_of_ob e4
          have hP4d : PoolAt w4.drew p _ _ _ := hP4.keep (Keep.drew (Keep.refl [] _)) (by simp) (by simp)
          have hback := aBack w4.drew p _ _ _ hP4d ((r : Int) + 1) ((q : Int) + 1)
          have hback2 : Calls Try.prog 52 #[.pointer (some ⟨p, 0, none⟩), .agg #[.int .i64 ((r : Int) + 1), .int .i64 ((q : Int) + 1)]] w4.drew fun o w' => o = .returned (.int .i64 0) ∧ PoolAt w' p (List.range w.heap.size ++ [a]) (fairOs m (j + 1)) (List.replicate m false) ∧ Far (List.range w.heap.size ++ [a]) p w4.drew w' := by
            refine hback.mono ?_
            intro o w' h
            unfold backQ at h
            rw [if_pos F5.out, show ((r : Int) + 1 - 1).toNat = r by omega, F4.out] at h
            exact h
          clear hback hP4 hP4d hP3
          go_region_held3 (fun w' => w'.cell? ⟨a, 0, none⟩ = some (.int .i64 ((r : Int) + 1)) ∧ w'.cell? ⟨a, 1, none⟩ = some (.int .i64 ((q : Int) + 1))) (go_keep)
            ((go_at_call 52; refine hback2.mono ?_; rintro _ w5 ⟨rfl, hP5, hF5⟩; have c5 := cell_of_ob (Far.kp hF5 (dr e4) (by simp))))
          have lp5 : p < w5.heap.size := by
            have := Far.size hF5
            have h2 : p < w4.drew.heap.size := by show p < w4.heap.size; omega
            omega
          have hk5 : Keep [] w w5 := Far.base hF5 rfl hk4.drew
          go_wp2
          go_roundw
          case rel => exact ⟨j + 1, by omega, by go_num, lp5, hP5.addL (fun x hx => .inl (by simp at hx ⊢; exact .inl hx)), hk5⟩
          case measure => simp [intOf]; omega
        · have hj : j = k := by omega
          subst hj
          go_wp2_with fail
          refine (aLeft wr p _ _ _ hPr).mono ?_
          rintro _ w9 ⟨rfl, hk9⟩
          have hcf : (List.replicate m false).count false = m := by simp
          rw [hcf]
          have hkE := hkr.trans hk9
          clear hPr hP2
          go_wp2
          all_goals
            go_ret
            exact ⟨rfl, hkE⟩
    · clear hP2
      rcases (show n < 0 ∨ (0 ≤ n ∧ 100 < n) by omega) with h | h
      all_goals
        clear hn
        go_wp2
        go_ret
        exact ⟨rfl, hk02⟩
end Go.Proofs.Ytfljhfggjbkomaa
