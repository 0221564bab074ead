import Derived.Test.YtpkpdfljhpieaaaBe
namespace Go.Proofs.Ytpkpdfljhpieaaa
open Go.RowKit
set_option linter.unusedSimpArgs false
set_option linter.unusedVariables false
attribute [local go_sem] ob_alloc ob_drew ob_drewN ob_setCell ob_setBlock objSet_cells obMap_map obClock_map isMapI_map keyI_mk findI_nil findI_cons lookRes_some lookRes_none lookRes_some' lookRes_none' setBlock_alloc mapPut

set_option maxRecDepth 100000 in
set_option maxHeartbeats 400000 in
theorem fields_no (x y : Nat) (hx : x < 2 ^ 64) (hy : y < 2 ^ 64) (f m : Int) (h : okF f m = false) (w : World) :
    Calls Try.prog 3 #[.int .u64 x, .int .u64 y, .agg #[.int .i64 f, .int .i64 m]] w fun o w' => o = .returned (.bool true) ∧ Keep [] w w' := by

  go_enter Try.func3, Try.ntmps3
  go_wp2_with fail
  refine (awake_any _).mono ?_
  rintro _ w1 ⟨rfl, hk⟩
  have hs := hk.size
  simp at hs
  have e0 := hk.kp (al_new w _ rfl) (by simp)
  have c0 := cell_of_ob e0
  go_wp2_with (first | (go_at_call 14; refine (get_no _ f m h _).mono ?_; rintro e w' ⟨rfl, rfl⟩) | (go_at_call 15; refine (refGet_no _ f m h _).mono ?_; rintro e w' ⟨rfl, rfl⟩) | (go_at_call 16; refine (put_no1 _ y f m h _).mono ?_; rintro e w' ⟨rfl, rfl⟩) | (go_at_call 17; refine (refPut_no _ y f m h _).mono ?_; rintro e w' ⟨rfl, rfl⟩))
  go_ret
  exact ⟨rfl, by repeat (first | exact Keep.refl _ _ | refine Keep.drew ?_ | refine Keep.drewN ?_ _ | refine Keep.setCell ?_ (by first | (left; simp; done) | (right; simp; done) | (right; omega) | (right; simp; omega)) _ _ | refine Keep.setBlock ?_ (by first | (left; simp; done) | (right; simp; done) | (right; omega) | (right; simp; omega)) _ | refine Keep.alloc ?_ _ | refine Keep.andThen ?_ (by assumption) (by first | (simp; done) | (simp; omega) | (intro x hx; simp at hx; simp; omega)))⟩

set_option maxRecDepth 100000 in
set_option maxHeartbeats 400000 in
theorem fields_big (x y : Nat) (hx : x < 2 ^ 64) (hy : y < 2 ^ 64) (f m : Int) (h : okF f m = true) (hb : ¬ y < 2 ^ m.toNat) (w : World) :
    Calls Try.prog 3 #[.int .u64 x, .int .u64 y, .agg #[.int .i64 f, .int .i64 m]] w fun o w' => o = .returned (.bool true) ∧ Keep [] w w' := by
  have HB := Lib.hid hb
  go_enter Try.func3, Try.ntmps3
  go_wp2_with fail
  refine (awake_any _).mono ?_
  rintro _ w1 ⟨rfl, hk⟩
  have hs := hk.size
  simp at hs
  have e0 := hk.kp (al_new w _ rfl) (by simp)
  have c0 := cell_of_ob e0
  clear hb
  go_wp2_with (first | (go_at_call 14; refine (get_yes x hx f m h _).mono ?_; rintro e w' ⟨rfl, rfl⟩))
  refine (refGet_yes x hx f m h _).mono ?_
  rintro _ w2 ⟨rfl, hk2⟩
  have hs2 := hk2.size
  have e0 := hk2.kp e0 (by simp)
  clear c0
  have c0 := cell_of_ob e0
  go_wp2_with (first | (go_at_call 16; refine (put_no2 _ y hy f m h HB.out _).mono ?_; rintro e w' ⟨rfl, rfl⟩) | (go_at_call 17; refine (refPut_no2 _ y hy f m h HB.out _).mono ?_; rintro e w' ⟨rfl, rfl⟩))
  go_ret
  exact ⟨rfl, by repeat (first | exact Keep.refl _ _ | refine Keep.drew ?_ | refine Keep.drewN ?_ _ | refine Keep.setCell ?_ (by first | (left; simp; done) | (right; simp; done) | (right; omega) | (right; simp; omega)) _ _ | refine Keep.setBlock ?_ (by first | (left; simp; done) | (right; simp; done) | (right; omega) | (right; simp; omega)) _ | refine Keep.alloc ?_ _ | refine Keep.andThen ?_ (by assumption) (by first | (simp; done) | (simp; omega) | (intro x hx; simp at hx; simp; omega)))⟩

set_option maxRecDepth 100000 in
set_option maxHeartbeats 400000 in
theorem fields_yes (x y : Nat) (hx : x < 2 ^ 64) (hy : y < 2 ^ 64) (f m : Int) (h : okF f m = true) (hb : y < 2 ^ m.toNat) (w : World) :
    Calls Try.prog 3 #[.int .u64 x, .int .u64 y, .agg #[.int .i64 f, .int .i64 m]] w fun o w' => o = .returned (.bool true) ∧ Keep [] w w' := by
  have HB := Lib.hid hb
  go_enter Try.func3, Try.ntmps3
  go_wp2_with fail
  refine (awake_any _).mono ?_
  rintro _ w1 ⟨rfl, hk⟩
  have hs := hk.size
  simp at hs
  have e0 := hk.kp (al_new w _ rfl) (by simp)
  have c0 := cell_of_ob e0
  clear hb
  go_wp2_with (first | (go_at_call 14; refine (get_yes x hx f m h _).mono ?_; rintro e w' ⟨rfl, rfl⟩))
  refine (refGet_yes x hx f m h _).mono ?_
  rintro _ w2 ⟨rfl, hk2⟩
  have hs2 := hk2.size
  have e0 := hk2.kp e0 (by simp)
  clear c0
  have c0 := cell_of_ob e0
  go_wp2_with fail
  refine (put_yes x y hx f m h HB.out _).mono ?_
  rintro _ w3 ⟨rfl, hk3⟩
  have hs3 := hk3.size
  have e0 := hk3.kp e0 (by simp)
  clear c0
  have c0 := cell_of_ob e0
  go_wp2_with fail
  refine (refPut_yes x y hx hy f m h HB.out _).mono ?_
  rintro _ w4 ⟨rfl, hk4⟩
  have hs4 := hk4.size
  go_wp2
  go_ret
  exact ⟨rfl, by repeat (first | exact Keep.refl _ _ | refine Keep.drew ?_ | refine Keep.drewN ?_ _ | refine Keep.setCell ?_ (by first | (left; simp; done) | (right; simp; done) | (right; omega) | (right; simp; omega)) _ _ | refine Keep.setBlock ?_ (by first | (left; simp; done) | (right; simp; done) | (right; omega) | (right; simp; omega)) _ | refine Keep.alloc ?_ _ | refine Keep.andThen ?_ (by assumption) (by first | (simp; done) | (simp; omega) | (intro x hx; simp at hx; simp; omega)))⟩

theorem fields_any (x y : Nat) (hx : x < 2 ^ 64) (hy : y < 2 ^ 64) (f m : Int) (w : World) :
    Calls Try.prog 3 #[.int .u64 x, .int .u64 y, .agg #[.int .i64 f, .int .i64 m]] w fun o w' => o = .returned (.bool true) ∧ Keep [] w w' := by
  cases h : okF f m with
  | false => exact fields_no x y hx hy f m h w
  | true =>
    by_cases hb : y < 2 ^ m.toNat
    · exact fields_yes x y hx hy f m h hb w
    · exact fields_big x y hx hy f m h hb w

/-! ### BitsBack -/

set_option maxRecDepth 100000 in
set_option maxHeartbeats 400000 in
theorem back_no (x y : Nat) (hx : x < 2 ^ 64) (hy : y < 2 ^ 64) (f m : Int) (h : okF f m = false) (w : World) :
    Calls Try.prog 4 #[.int .u64 x, .int .u64 y, .agg #[.int .i64 f, .int .i64 m]] w fun o w' => o = .returned (.bool true) ∧ Keep [] w w' := by
  go_enter Try.func4, Try.ntmps4
  go_wp2_with fail
  refine (awake_any _).mono ?_
  rintro _ w1 ⟨rfl, hk⟩
  have hs := hk.size
  simp at hs
  have e0 := hk.kp (al_new w _ rfl) (by simp)
  have c0 := cell_of_ob e0
  go_wp2_with (first | (go_at_call 14; refine (get_no _ f m h _).mono ?_; rintro e w' ⟨rfl, rfl⟩))
  go_ret
  exact ⟨rfl, by repeat (first | exact Keep.refl _ _ | refine Keep.drew ?_ | refine Keep.drewN ?_ _ | refine Keep.setCell ?_ (by first | (left; simp; done) | (right; simp; done) | (right; omega) | (right; simp; omega)) _ _ | refine Keep.setBlock ?_ (by first | (left; simp; done) | (right; simp; done) | (right; omega) | (right; simp; omega)) _ | refine Keep.alloc ?_ _ | refine Keep.andThen ?_ (by assumption) (by first | (simp; done) | (simp; omega) | (intro x hx; simp at hx; simp; omega)))⟩

set_option maxRecDepth 100000 in
set_option maxHeartbeats 400000 in
theorem back_big (x y : Nat) (hx : x < 2 ^ 64) (hy : y < 2 ^ 64) (f m : Int) (h : okF f m = true) (hb : ¬ y < 2 ^ m.toNat) (w : World) :
    Calls Try.prog 4 #[.int .u64 x, .int .u64 y, .agg #[.int .i64 f, .int .i64 m]] w fun o w' => o = .returned (.bool true) ∧ Keep [] w w' := by
  have HB := Lib.hid hb; clear hb
  go_enter Try.func4, Try.ntmps4
  go_wp2_with fail
  refine (awake_any _).mono ?_
  rintro _ w1 ⟨rfl, hk⟩
  have hs := hk.size
  simp at hs
  have e0 := hk.kp (al_new w _ rfl) (by simp)
  have c0 := cell_of_ob e0
  go_wp2_with (first | (go_at_call 14; refine (get_yes x hx f m h _).mono ?_; rintro e w' ⟨rfl, rfl⟩) | (go_at_call 16; refine (put_no2 _ y hy f m h HB.out _).mono ?_; rintro e w' ⟨rfl, rfl⟩))
  go_ret
  exact ⟨rfl, by repeat (first | exact Keep.refl _ _ | refine Keep.drew ?_ | refine Keep.drewN ?_ _ | refine Keep.setCell ?_ (by first | (left; simp; done) | (right; simp; done) | (right; omega) | (right; simp; omega)) _ _ | refine Keep.setBlock ?_ (by first | (left; simp; done) | (right; simp; done) | (right; omega) | (right; simp; omega)) _ | refine Keep.alloc ?_ _ | refine Keep.andThen ?_ (by assumption) (by first | (simp; done) | (simp; omega) | (intro x hx; simp at hx; simp; omega)))⟩

set_option maxRecDepth 100000 in
set_option maxHeartbeats 400000 in
theorem back_yes (x y : Nat) (hx : x < 2 ^ 64) (hy : y < 2 ^ 64) (f m : Int) (h : okF f m = true) (hb : y < 2 ^ m.toNat) (w : World) :
    Calls Try.prog 4 #[.int .u64 x, .int .u64 y, .agg #[.int .i64 f, .int .i64 m]] w fun o w' => o = .returned (.bool true) ∧ Keep [] w w' := by
  have h' := (okF_iff f m).1 h
  have hg := Lib.hid (get_put x y f.toNat m.toNat hb (by omega))
  have hp := Lib.hid (put_back x y f.toNat m.toNat hx)
  have hlt := Lib.hid (sumB_lt (fun i => x.testBit (f.toNat + i)) m.toNat)
  have HB := Lib.hid hb; clear hb
  go_enter Try.func4, Try.ntmps4
  go_wp2_with fail
  refine (awake_any _).mono ?_
  rintro _ w1 ⟨rfl, hk⟩
  have hs := hk.size
  simp at hs
  have e0 := hk.kp (al_new w _ rfl) (by simp)
  have c0 := cell_of_ob e0
  go_wp2_with (first | (go_at_call 14; refine (get_yes x hx f m h _).mono ?_; rintro e w' ⟨rfl, rfl⟩))
  refine (put_yes x y hx f m h HB.out _).mono ?_
  rintro _ w2 ⟨rfl, hk2⟩
  have hs2 := hk2.size
  have e0 := hk2.kp e0 (by simp)
  clear c0
  have c0 := cell_of_ob e0
  go_wp2_with fail
  refine (get_yes (putN x y f.toNat m.toNat) (putN_lt _ _ _ _) f m h _).mono ?_
  rintro _ _ ⟨rfl, rfl⟩
  rw [hg.out]
  go_wp2_with fail
  refine (put_yes (putN x y f.toNat m.toNat) (getN x f.toNat m.toNat) (putN_lt _ _ _ _) f m h hlt.out _).mono ?_
  rintro _ w3 ⟨rfl, hk3⟩
  rw [hp.out]
  have hs3 := hk3.size
  go_wp2
  go_ret
  exact ⟨rfl, by repeat (first | exact Keep.refl _ _ | refine Keep.drew ?_ | refine Keep.drewN ?_ _ | refine Keep.setCell ?_ (by first | (left; simp; done) | (right; simp; done) | (right; omega) | (right; simp; omega)) _ _ | refine Keep.setBlock ?_ (by first | (left; simp; done) | (right; simp; done) | (right; omega) | (right; simp; omega)) _ | refine Keep.alloc ?_ _ | refine Keep.andThen ?_ (by assumption) (by first | (simp; done) | (simp; omega) | (intro x hx; simp at hx; simp; omega)))⟩

theorem back_any (x y : Nat) (hx : x < 2 ^ 64) (hy : y < 2 ^ 64) (f m : Int) (w : World) :
    Calls Try.prog 4 #[.int .u64 x, .int .u64 y, .agg #[.int .i64 f, .int .i64 m]] w fun o w' => o = .returned (.bool true) ∧ Keep [] w w' := by
  cases h : okF f m with
  | false => exact back_no x y hx hy f m h w
  | true =>
    by_cases hb : y < 2 ^ m.toNat
    · exact back_yes x y hx hy f m h hb w
    · exact back_big x y hx hy f m h hb w
end Go.Proofs.Ytpkpdfljhpieaaa
