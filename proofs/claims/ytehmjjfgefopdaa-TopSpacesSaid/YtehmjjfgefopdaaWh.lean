import Derived.Test.YtehmjjfgefopdaaWg
namespace Go.Proofs.Ytehmjjfgefopdaa
open Go.RowKit
set_option linter.unusedSimpArgs false
set_option linter.unusedVariables false
attribute [local go_sem] ob_alloc ob_drew ob_drewN ob_setCell ob_setBlock objSet_cells obMap_map obClock_map isMapI_map keyI_mk findI_nil findI_cons lookRes_some lookRes_none lookRes_some' lookRes_none' setBlock_alloc mapPut

theorem MemE.upd {w : World} {m g n : Nat} {M : Nat → Nat → EN} (h : MemE w m g n M) {w' : World} {f p : Nat} {e : EN} (hp : p < 16) (he : okE e = true) (h' : MemAt w' m g n (updW (sE M) (f * 16 + p) (wE e : Nat))) : MemE w' m g n (updE M f p e) :=
  ⟨h'.congr (fun i _ => sE_upd M f p hp e i), fun f' p' => by unfold updE; split; exact he; exact h.2 f' p'⟩
set_option maxRecDepth 100000 in
set_option maxHeartbeats 800000 in
theorem pPut (w : World) (m g n : Nat) (M : Nat → Nat → EN) (hM : MemE w m g n M) (f p : Nat) (hf : f < n) (hp : p < 16) (e : EN) (he : okE e = true) :
    Calls Try.prog 23 #[.pointer (some ⟨m, 0, none⟩), .int .i64 (f : Int), .int .i64 (p : Int), e.val] w fun o w' => o = .returned (.int .i64 0) ∧ MemE w' m g n (updE M f p e) ∧ Keep [g] w w' := by
  have hn := hM.1.2.2.2.2
  have HE := Lib.hid he
  have HM0 := Lib.hid hM
  obtain ⟨v, ww, t, fr⟩ := e
  have k1 : Keep [] w (w.alloc (.cells #[.bool v, .bool ww, .bool t, .int .i64 (fr : Int)] 38)) := (Keep.refl _ _).alloc _
  have HM := Lib.hid (hM.keep k1 (by simp) (by simp))
  have HK := Lib.hid k1
  have HW := Lib.hid (fun w => pWord w ⟨v, ww, t, fr⟩ HE.out)
  clear k1 hM he
  obtain ⟨X, hX⟩ : ∃ X, wE ⟨v, ww, t, fr⟩ = X := ⟨_, rfl⟩
  rw [hX] at HW
  have HX := Lib.hid hX
  clear hX
  unfold EN.val at HW ⊢
  simp only at HW ⊢
  go_enter Try.func23, Try.ntmps23
  go_wp2_with fail
  generalize w.alloc (.cells #[.bool v, .bool ww, .bool t, .int .i64 (fr : Int)] 38) = w1 at *
  refine (HW.out w1).mono ?_
  rintro _ w2 ⟨rfl, hk2⟩
  have HM2 := Lib.hid (HM.out.keep hk2 (by simp) (by simp))
  have HK2 := Lib.hid (HK.out.trans hk2)
  clear hk2 HM HK
  go_wp2_with (first | (go_at_call 31; refine (pHas w2 m g n _ HM2.out.1 f hf).mono ?_; rintro _ w3 ⟨rfl, rfl⟩) | fail)
  have hR := mWrite w2 m g n (sE M) HM2.out.1 ((f : Int) * 16 + (p : Int)) (X : Int)
  have ho : okA n ((f : Int) * 16 + (p : Int)) = true := by unfold okA; simp; omega
  unfold writeS at hR
  rw [if_pos ho, ho, show ((f : Int) * 16 + (p : Int)).toNat = f * 16 + p by omega] at hR
  refine hR.mono ?_
  rintro _ w3 ⟨rfl, hM3, hk3⟩
  rw [← HX.out] at hM3
  have HF := Lib.hid (HM0.out.upd hp HE.out hM3)
  have HKF := Lib.hid ((HK2.out.mono (T := [g]) (by simp)).trans hk3)
  simp only [eR, if_true]
  clear hR ho hM3 hk3
  go_wp2_with fail
  go_ret
  exact ⟨rfl, HF.out, HKF.out⟩
/-! ### Blank -/
def blankE (M : Nat → Nat → EN) (f : Nat) : Bool := (List.range 16).all fun p => !(M f p).v
def blankK (M : Nat → Nat → EN) (f k : Nat) : Bool := (List.range k).all fun p => !(M f p).v
theorem blankK_succ (M : Nat → Nat → EN) (f k : Nat) : blankK M f (k + 1) = (blankK M f k && !(M f k).v) := by unfold blankK; rw [List.range_succ, List.all_append]; simp
set_option maxRecDepth 100000 in
set_option maxRecDepth 100000 in
set_option maxHeartbeats 800000 in
theorem pBlank (w : World) (m g n : Nat) (M : Nat → Nat → EN) (hM : MemE w m g n M) (f : Nat) (hf : f < n) :
    Calls Try.prog 25 #[.pointer (some ⟨m, 0, none⟩), .int .i64 (f : Int)] w fun o w' => o = .returned (.bool (blankE M f)) ∧ Keep [] w w' := by
  have hn := hM.1.2.2.2.2
  have HM := Lib.hid hM
  have HK := Lib.hid (Keep.refl [] w)
  clear hM
  go_enter Try.func25, Try.ntmps25
  go_wp2_with (first | (go_at_call 31; refine (pHas w m g n _ HM.out.1 f hf).mono ?_; rintro _ w3 ⟨rfl, rfl⟩) | fail)
  go_loopg [12] 16 (fun gn s12 wr => ∃ k : Nat, s12 = .int .i64 k ∧ k ≤ 16 ∧ gn = 16 - k ∧ Keep [] w wr ∧ blankK M f k = true)
  case atStart => exact ⟨0, rfl, by omega, rfl, HK.out, rfl⟩
  case round =>
    obtain ⟨k, rfl, hk, rfl, hkr, hb⟩ := hrel
    have HB := Lib.hid hb
    have HKr := Lib.hid hkr
    have HMr := Lib.hid (HM.out.keep hkr (by simp) (by simp))
    clear hb hkr
    by_cases hlt : k < 16
    · have hk4 : (k : Int) < 16 := by omega
      go_wp2_with fail
      refine (pGet wr m g n M HMr.out f k hf hlt).mono ?_
      rintro _ w4 ⟨rfl, hk4⟩
      have HKE := Lib.hid (HKr.out.trans hk4)
      obtain ⟨e, he⟩ : ∃ e, M f k = e := ⟨_, rfl⟩
      have HE := Lib.hid he
      rw [he]
      obtain ⟨v, ww, t, fr⟩ := e
      unfold EN.val
      simp only
      have HK5 := Lib.hid (HKE.out.alloc (.cells #[.bool v, .bool ww, .bool t, .int .i64 (fr : Int)] 38))
      have HC5 := Lib.hid (al_new w4 (.cells #[.bool v, .bool ww, .bool t, .int .i64 (fr : Int)] 38) rfl)
      clear hk4 HKE HKr HMr he
      go_upto_region 7 with fail
      generalize w4.alloc (.cells #[.bool v, .bool ww, .bool t, .int .i64 (fr : Int)] 38) = w5 at *
      generalize w4.heap.size = ci at *
      have r0 := cell_of_ob HC5.out 0
      have r1 := cell_of_ob HC5.out 1
      have r2 := cell_of_ob HC5.out 2
      have r3 := cell_of_ob HC5.out 3
      simp only [List.getElem?_toArray, List.getElem?_cons_zero, List.getElem?_cons_succ] at r0 r1 r2 r3
      have lc := ob_lt HC5.out
      cases v with
      | true =>
        go_wp2_with fail
        go_ret
        refine ⟨ret_b ?_, HK5.out⟩
        symm
        unfold blankE
        rw [List.all_eq_false]
        exact ⟨k, List.mem_range.2 hlt, by rw [HE.out]; simp⟩
      | false =>
        go_wp2_with fail
        go_roundg (16 - (k + 1))
        case measure => omega
        case rel => exact ⟨k + 1, by go_num, by omega, rfl, HK5.out, by rw [blankK_succ, HB.out, HE.out]; rfl⟩
    · obtain rfl : k = 16 := by omega
      go_wp2_with fail
      go_ret
      exact ⟨ret_b HB.out.symm, HKr.out⟩
end Go.Proofs.Ytehmjjfgefopdaa
