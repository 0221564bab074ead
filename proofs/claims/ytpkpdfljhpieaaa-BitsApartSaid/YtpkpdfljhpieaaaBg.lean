import Derived.Test.YtpkpdfljhpieaaaBe
namespace Go.Proofs.Ytpkpdfljhpieaaa
open Go.RowKit
set_option linter.unusedSimpArgs false
set_option linter.unusedVariables false
attribute [local go_sem] ob_alloc ob_drew ob_drewN ob_setCell ob_setBlock objSet_cells obMap_map obClock_map isMapI_map keyI_mk findI_nil findI_cons lookRes_some lookRes_none lookRes_some' lookRes_none' setBlock_alloc mapPut

set_option maxRecDepth 100000 in
set_option maxHeartbeats 400000 in
theorem apart_no1 (x y : Nat) (hx : x < 2 ^ 64) (hy : y < 2 ^ 64) (f m g n : Int) (h1 : okF f m = false) (h2 : okF g n = false) (w : World) :
    Calls Try.prog 5 #[.int .u64 x, .int .u64 y, .agg #[.int .i64 f, .int .i64 m, .int .i64 g, .int .i64 n]] w fun o w' => o = .returned (.bool true) ∧ Keep [] w w' := by
  go_enter Try.func5, Try.ntmps5
  go_wp2_with fail
  refine (awake_any _).mono ?_
  rintro _ w1 ⟨rfl, hk⟩
  have hs := hk.size
  simp at hs
  have e0 := hk.kp (al_new w _ rfl) (by simp)
  have c0 := cell_of_ob e0
  go_wp2_with fail
  refine (get_no _ f m h1 _).mono ?_
  rintro _ _ ⟨rfl, rfl⟩
  go_wp2_with fail
  refine (get_no _ g n h2 _).mono ?_
  rintro _ _ ⟨rfl, rfl⟩
  go_wp2
  go_ret
  exact ⟨rfl, by repeat (first | exact Keep.refl _ _ | refine Keep.drew ?_ | refine Keep.drewN ?_ _ | refine Keep.setCell ?_ (by first | (left; simp; done) | (right; simp; done) | (right; omega) | (right; simp; omega)) _ _ | refine Keep.setBlock ?_ (by first | (left; simp; done) | (right; simp; done) | (right; omega) | (right; simp; omega)) _ | refine Keep.alloc ?_ _ | refine Keep.andThen ?_ (by assumption) (by first | (simp; done) | (simp; omega) | (intro x hx; simp at hx; simp; omega)))⟩
set_option maxRecDepth 100000 in
set_option maxHeartbeats 400000 in
theorem apart_no2 (x y : Nat) (hx : x < 2 ^ 64) (hy : y < 2 ^ 64) (f m g n : Int) (h1 : okF f m = false) (h2 : okF g n = true) (w : World) :
    Calls Try.prog 5 #[.int .u64 x, .int .u64 y, .agg #[.int .i64 f, .int .i64 m, .int .i64 g, .int .i64 n]] w fun o w' => o = .returned (.bool true) ∧ Keep [] w w' := by
  go_enter Try.func5, Try.ntmps5
  go_wp2_with fail
  refine (awake_any _).mono ?_
  rintro _ w1 ⟨rfl, hk⟩
  have hs := hk.size
  simp at hs
  have e0 := hk.kp (al_new w _ rfl) (by simp)
  have c0 := cell_of_ob e0
  go_wp2_with fail
  refine (get_no _ f m h1 _).mono ?_
  rintro _ _ ⟨rfl, rfl⟩
  go_wp2_with fail
  refine (get_yes x hx g n h2 _).mono ?_
  rintro _ _ ⟨rfl, rfl⟩
  go_wp2
  go_ret
  exact ⟨rfl, by repeat (first | exact Keep.refl _ _ | refine Keep.drew ?_ | refine Keep.drewN ?_ _ | refine Keep.setCell ?_ (by first | (left; simp; done) | (right; simp; done) | (right; omega) | (right; simp; omega)) _ _ | refine Keep.setBlock ?_ (by first | (left; simp; done) | (right; simp; done) | (right; omega) | (right; simp; omega)) _ | refine Keep.alloc ?_ _ | refine Keep.andThen ?_ (by assumption) (by first | (simp; done) | (simp; omega) | (intro x hx; simp at hx; simp; omega)))⟩
set_option maxRecDepth 100000 in
set_option maxHeartbeats 400000 in
theorem apart_no3 (x y : Nat) (hx : x < 2 ^ 64) (hy : y < 2 ^ 64) (f m g n : Int) (h1 : okF f m = true) (h2 : okF g n = false) (w : World) :
    Calls Try.prog 5 #[.int .u64 x, .int .u64 y, .agg #[.int .i64 f, .int .i64 m, .int .i64 g, .int .i64 n]] w fun o w' => o = .returned (.bool true) ∧ Keep [] w w' := by
  go_enter Try.func5, Try.ntmps5
  go_wp2_with fail
  refine (awake_any _).mono ?_
  rintro _ w1 ⟨rfl, hk⟩
  have hs := hk.size
  simp at hs
  have e0 := hk.kp (al_new w _ rfl) (by simp)
  have c0 := cell_of_ob e0
  go_wp2_with fail
  refine (get_yes x hx f m h1 _).mono ?_
  rintro _ _ ⟨rfl, rfl⟩
  go_wp2_with fail
  refine (get_no _ g n h2 _).mono ?_
  rintro _ _ ⟨rfl, rfl⟩
  go_wp2
  go_ret
  exact ⟨rfl, by repeat (first | exact Keep.refl _ _ | refine Keep.drew ?_ | refine Keep.drewN ?_ _ | refine Keep.setCell ?_ (by first | (left; simp; done) | (right; simp; done) | (right; omega) | (right; simp; omega)) _ _ | refine Keep.setBlock ?_ (by first | (left; simp; done) | (right; simp; done) | (right; omega) | (right; simp; omega)) _ | refine Keep.alloc ?_ _ | refine Keep.andThen ?_ (by assumption) (by first | (simp; done) | (simp; omega) | (intro x hx; simp at hx; simp; omega)))⟩
set_option maxRecDepth 100000 in
set_option maxHeartbeats 400000 in
theorem apart_over (x y : Nat) (hx : x < 2 ^ 64) (hy : y < 2 ^ 64) (f m g n : Int) (h1 : okF f m = true) (h2 : okF g n = true) (h3 : f < g + n) (h4 : g < f + m) (w : World) :
    Calls Try.prog 5 #[.int .u64 x, .int .u64 y, .agg #[.int .i64 f, .int .i64 m, .int .i64 g, .int .i64 n]] w fun o w' => o = .returned (.bool true) ∧ Keep [] w w' := by
  have q1 := (okF_iff f m).1 h1
  have q2 := (okF_iff g n).1 h2
  go_enter Try.func5, Try.ntmps5
  go_wp2_with fail
  refine (awake_any _).mono ?_
  rintro _ w1 ⟨rfl, hk⟩
  have hs := hk.size
  simp at hs
  have e0 := hk.kp (al_new w _ rfl) (by simp)
  have c0 := cell_of_ob e0
  go_wp2_with fail
  refine (get_yes x hx f m h1 _).mono ?_
  rintro _ _ ⟨rfl, rfl⟩
  go_wp2_with fail
  refine (get_yes x hx g n h2 _).mono ?_
  rintro _ _ ⟨rfl, rfl⟩
  go_wp2
  go_ret
  exact ⟨rfl, by repeat (first | exact Keep.refl _ _ | refine Keep.drew ?_ | refine Keep.drewN ?_ _ | refine Keep.setCell ?_ (by first | (left; simp; done) | (right; simp; done) | (right; omega) | (right; simp; omega)) _ _ | refine Keep.setBlock ?_ (by first | (left; simp; done) | (right; simp; done) | (right; omega) | (right; simp; omega)) _ | refine Keep.alloc ?_ _ | refine Keep.andThen ?_ (by assumption) (by first | (simp; done) | (simp; omega) | (intro x hx; simp at hx; simp; omega)))⟩
theorem get_any (x : Nat) (hx : x < 2 ^ 64) (f m : Int) (h : okF f m = true) (w : World) :
    Calls Try.prog 14 #[.int .u64 x, .int .i64 f, .int .i64 m] w fun e w' => e = .returned (.tuple #[.int .u64 (getN x f.toNat m.toNat), .bool true]) ∧ w = w' := get_yes x hx f m h w
set_option maxRecDepth 100000 in
set_option maxHeartbeats 400000 in
theorem apart_big (x y : Nat) (hx : x < 2 ^ 64) (hy : y < 2 ^ 64) (f m g n : Int) (h1 : okF f m = true) (h2 : okF g n = true) (h3 : ¬ (f < g + n ∧ g < f + m)) (hb : ¬ y < 2 ^ n.toNat) (w : World) :
    Calls Try.prog 5 #[.int .u64 x, .int .u64 y, .agg #[.int .i64 f, .int .i64 m, .int .i64 g, .int .i64 n]] w fun o w' => o = .returned (.bool true) ∧ Keep [] w w' := by
  have q1 := (okF_iff f m).1 h1
  have q2 := (okF_iff g n).1 h2
  have HB := Lib.hid hb; clear hb
  by_cases h5 : f < g + n
  all_goals
    first | (have h6 : ¬ g < f + m := fun h => h3 ⟨h5, h⟩) | skip
    clear h3
    go_enter Try.func5, Try.ntmps5
    go_wp2_with fail
    refine (awake_any _).mono ?_
    rintro _ w1 ⟨rfl, hk⟩
    have hs := hk.size
    simp at hs
    have e0 := hk.kp (al_new w _ rfl) (by simp)
    have c0 := cell_of_ob e0
    go_wp2_with fail
    refine (get_yes x hx f m h1 _).mono ?_
    rintro _ _ ⟨rfl, rfl⟩
    go_wp2_with fail
    refine (get_yes x hx g n h2 _).mono ?_
    rintro _ _ ⟨rfl, rfl⟩
    go_wp2_with fail
    refine (put_no2 _ y hy g n h2 HB.out _).mono ?_
    rintro _ _ ⟨rfl, rfl⟩
    go_wp2_with fail
    refine (get_any 0 (by decide) f m h1 _).mono ?_
    rintro _ _ ⟨rfl, rfl⟩
    go_wp2
    go_ret
    exact ⟨rfl, by repeat (first | exact Keep.refl _ _ | refine Keep.drew ?_ | refine Keep.drewN ?_ _ | refine Keep.setCell ?_ (by first | (left; simp; done) | (right; simp; done) | (right; omega) | (right; simp; omega)) _ _ | refine Keep.setBlock ?_ (by first | (left; simp; done) | (right; simp; done) | (right; omega) | (right; simp; omega)) _ | refine Keep.alloc ?_ _ | refine Keep.andThen ?_ (by assumption) (by first | (simp; done) | (simp; omega) | (intro x hx; simp at hx; simp; omega)))⟩
set_option maxRecDepth 100000 in
set_option maxHeartbeats 400000 in
theorem apart_yes (x y : Nat) (hx : x < 2 ^ 64) (hy : y < 2 ^ 64) (f m g n : Int) (h1 : okF f m = true) (h2 : okF g n = true) (h3 : ¬ (f < g + n ∧ g < f + m)) (hb : y < 2 ^ n.toNat) (w : World) :
    Calls Try.prog 5 #[.int .u64 x, .int .u64 y, .agg #[.int .i64 f, .int .i64 m, .int .i64 g, .int .i64 n]] w fun o w' => o = .returned (.bool true) ∧ Keep [] w w' := by
  have q1 := (okF_iff f m).1 h1
  have q2 := (okF_iff g n).1 h2
  have hap := Lib.hid (get_apart x y f.toNat m.toNat g.toNat n.toNat (by omega) (by omega))
  have HB := Lib.hid hb; clear hb
  by_cases h5 : f < g + n
  all_goals
    first | (have h6 : ¬ g < f + m := fun h => h3 ⟨h5, h⟩) | skip
    clear h3
    go_enter Try.func5, Try.ntmps5
    go_wp2_with fail
    refine (awake_any _).mono ?_
    rintro _ w1 ⟨rfl, hk⟩
    have hs := hk.size
    simp at hs
    have e0 := hk.kp (al_new w _ rfl) (by simp)
    have c0 := cell_of_ob e0
    go_wp2_with fail
    refine (get_yes x hx f m h1 _).mono ?_
    rintro _ _ ⟨rfl, rfl⟩
    go_wp2_with fail
    refine (get_yes x hx g n h2 _).mono ?_
    rintro _ _ ⟨rfl, rfl⟩
    go_wp2_with fail
    refine (put_yes x y hx g n h2 HB.out _).mono ?_
    rintro _ w2 ⟨rfl, hk2⟩
    have hs2 := hk2.size
    have e0 := hk2.kp e0 (by simp)
    clear c0
    have c0 := cell_of_ob e0
    go_wp2_with fail
    refine (get_yes (putN x y g.toNat n.toNat) (putN_lt _ _ _ _) f m h1 _).mono ?_
    rintro _ _ ⟨rfl, rfl⟩
    rw [hap.out]
    go_wp2
    go_ret
    exact ⟨rfl, by repeat (first | exact Keep.refl _ _ | refine Keep.drew ?_ | refine Keep.drewN ?_ _ | refine Keep.setCell ?_ (by first | (left; simp; done) | (right; simp; done) | (right; omega) | (right; simp; omega)) _ _ | refine Keep.setBlock ?_ (by first | (left; simp; done) | (right; simp; done) | (right; omega) | (right; simp; omega)) _ | refine Keep.alloc ?_ _ | refine Keep.andThen ?_ (by assumption) (by first | (simp; done) | (simp; omega) | (intro x hx; simp at hx; simp; omega)))⟩

theorem apart_any (x y : Nat) (hx : x < 2 ^ 64) (hy : y < 2 ^ 64) (f m g n : Int) (w : World) :
    Calls Try.prog 5 #[.int .u64 x, .int .u64 y, .agg #[.int .i64 f, .int .i64 m, .int .i64 g, .int .i64 n]] w fun o w' => o = .returned (.bool true) ∧ Keep [] w w' := by
  cases h1 : okF f m with
  | false =>
    cases h2 : okF g n with
    | false => exact apart_no1 x y hx hy f m g n h1 h2 w
    | true => exact apart_no2 x y hx hy f m g n h1 h2 w
  | true =>
    cases h2 : okF g n with
    | false => exact apart_no3 x y hx hy f m g n h1 h2 w
    | true =>
      by_cases h3 : f < g + n ∧ g < f + m
      · exact apart_over x y hx hy f m g n h1 h2 h3.1 h3.2 w
      · by_cases hb : y < 2 ^ n.toNat
        · exact apart_yes x y hx hy f m g n h1 h2 h3 hb w
        · exact apart_big x y hx hy f m g n h1 h2 h3 hb w

end Go.Proofs.Ytpkpdfljhpieaaa
