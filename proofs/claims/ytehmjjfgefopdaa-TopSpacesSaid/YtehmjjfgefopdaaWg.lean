import Derived.Test.YtehmjjfgefopdaaWf
namespace Go.Proofs.Ytehmjjfgefopdaa
open Go.RowKit
set_option linter.unusedSimpArgs false
set_option linter.unusedVariables false
attribute [local go_sem] ob_alloc ob_drew ob_drewN ob_setCell ob_setBlock objSet_cells obMap_map obClock_map isMapI_map keyI_mk findI_nil findI_cons lookRes_some lookRes_none lookRes_some' lookRes_none' setBlock_alloc mapPut

/-! ### Index -/
def plc (pg l : Nat) : Nat := pg / 16 ^ (2 - l) % 16
theorem div_step (pg c : Nat) : pg / 16 ^ c / 16 = pg / 16 ^ (c + 1) := by rw [Nat.div_div_eq_div_mul, Nat.pow_succ]
set_option maxRecDepth 100000 in
set_option maxRecDepth 100000 in
set_option maxHeartbeats 800000 in
theorem pIndex (w : World) (pg l : Nat) (hp : pg < 4096) (hl : l < 3) : Calls Try.prog 24 #[.int .i64 (pg : Int), .int .i64 (l : Int)] w fun o w' => o = .returned (.tuple #[.int .i64 (plc pg l : Nat), .int .i64 0]) ∧ w = w' := by
  have hc : ((2 : Int) - (l : Int)) = ((2 - l : Nat) : Int) := by omega
  have hE := Lib.hid (show ∀ c, c = 2 - l → pg / 16 ^ c % 16 = plc pg l from fun c h => by subst h; rfl)
  obtain ⟨C, hC⟩ : ∃ C, 2 - l = C := ⟨_, rfl⟩
  rw [hC] at hc
  have HC := Lib.hid hC
  have hC2 : C ≤ 2 := by omega
  have hwr : IntKind.i64.wrap ((2 : Int) - (l : Int)) = (C : Int) := by rw [hc]; exact IntWalk.i64_in _ (by omega)
  clear hC
  go_enter Try.func24, Try.ntmps24
  go_wp2_with fail
  go_loopg [0, 22] C (fun gn s0 s22 wr => ∃ c : Nat, s0 = .int .i64 (pg / 16 ^ c : Nat) ∧ s22 = .int .i64 c ∧ c ≤ C ∧ gn = C - c ∧ wr = w)
  case atStart => exact ⟨0, by simp, rfl, by omega, rfl, rfl⟩
  case round =>
    obtain ⟨c, rfl, rfl, hcC, rfl, rfl⟩ := hrel
    by_cases hlt : c < C
    · have hlt' : (c : Int) < (C : Int) := by omega
      have HS := Lib.hid (div_step pg c)
      have hle : pg / 16 ^ c ≤ pg := Nat.div_le_self _ _
      generalize pg / 16 ^ c = q at *
      go_wp2_with fail
      go_roundg (C - (c + 1))
      case measure => omega
      case rel => exact ⟨c + 1, by rw [← HS.out]; rfl, by go_num, by omega, rfl, rfl⟩
    · obtain rfl : c = C := by omega
      have HE := Lib.hid (hE.out c HC.out.symm)
      have hle : pg / 16 ^ c ≤ pg := Nat.div_le_self _ _
      clear hE
      generalize pg / 16 ^ c = q at *
      go_wp2_with fail
      go_ret2
      exact ⟨by rw [← HE.out]; rfl, rfl⟩
set_option maxRecDepth 100000 in
set_option maxHeartbeats 800000 in
theorem pHas (w : World) (m g n : Nat) (s : Nat → Int) (hM : MemAt w m g n s) (f : Nat) (hf : f < n) : Calls Try.prog 31 #[.pointer (some ⟨m, 0, none⟩), .int .i64 (f : Int)] w fun o w' => o = .returned (.bool true) ∧ w = w' := by
  have hn := hM.2.2.2.2
  have H := Lib.hid hM
  clear hM
  go_enter Try.func31, Try.ntmps31
  go_wp2_with (first | (go_at_call 16; refine (mFrames w m g n s H.out).mono ?_; rintro _ w1 ⟨rfl, rfl⟩))
  go_ret
  exact ⟨rfl, rfl⟩
def isB (p : Int) : Bool := decide (0 ≤ p ∧ p < 4096)
set_option maxRecDepth 100000 in
set_option maxHeartbeats 800000 in
theorem pIs (w : World) (p : Int) : Calls Try.prog 19 #[.int .i64 p] w fun o w' => o = .returned (.bool (isB p)) ∧ w = w' := by
  by_cases h1 : 0 ≤ p
  · by_cases h2 : p < 4096
    · have e : isB p = true := by unfold isB; simp; omega
      rw [e]
      go_enter Try.func19, Try.ntmps19
      go_wp2
      go_ret
      exact ⟨rfl, rfl⟩
    · have e : isB p = false := by unfold isB; simp; omega
      rw [e]
      go_enter Try.func19, Try.ntmps19
      go_wp2
      go_ret
      exact ⟨rfl, rfl⟩
  · have e : isB p = false := by unfold isB; simp; omega
    rw [e]
    go_enter Try.func19, Try.ntmps19
    go_wp2
    go_ret
    exact ⟨rfl, rfl⟩
/-! ### a memory of entries -/
def sE (M : Nat → Nat → EN) : Nat → Int := fun i => (wE (M (i / 16) (i % 16)) : Nat)
def MemE (w : World) (m g n : Nat) (M : Nat → Nat → EN) : Prop := MemAt w m g n (sE M) ∧ ∀ f p, okE (M f p) = true
def updE (M : Nat → Nat → EN) (f p : Nat) (e : EN) : Nat → Nat → EN := fun f' p' => if f' = f ∧ p' = p then e else M f' p'
theorem MemE.keep {w w' : World} {m g n : Nat} {M : Nat → Nat → EN} {S : List Nat} (h : MemE w m g n M) (hk : Keep S w w') (hm : m ∉ S) (hg : g ∉ S) : MemE w' m g n M := ⟨h.1.keep hk hm hg, h.2⟩
theorem sE_upd (M : Nat → Nat → EN) (f p : Nat) (hp : p < 16) (e : EN) (i : Nat) : updW (sE M) (f * 16 + p) (wE e : Nat) i = sE (updE M f p e) i := by
  unfold updW sE updE
  by_cases h : i = f * 16 + p
  · rw [if_pos h, if_pos (by omega)]
  · rw [if_neg h, if_neg (by omega)]
set_option maxRecDepth 100000 in
set_option maxHeartbeats 800000 in
theorem pGet (w : World) (m g n : Nat) (M : Nat → Nat → EN) (hM : MemE w m g n M) (f p : Nat) (hf : f < n) (hp : p < 16) :
    Calls Try.prog 32 #[.pointer (some ⟨m, 0, none⟩), .int .i64 (f : Int), .int .i64 (p : Int)] w fun o w' => o = .returned (.tuple #[(M f p).val, .int .i64 0]) ∧ Keep [] w w' := by
  have hn := hM.1.2.2.2.2
  have k1 : Keep [] w (w.alloc (.cells #[.bool false, .bool false, .bool false, .int .i64 0] 38)) := (Keep.refl _ _).alloc _
  have HO := Lib.hid (al_new w (.cells #[.bool false, .bool false, .bool false, .int .i64 0] 38) rfl)
  have HM := Lib.hid (hM.keep k1 (by simp) (by simp))
  have HK := Lib.hid k1
  have HOK := Lib.hid (hM.2 f p)
  have HN := Lib.hid (Nat.le_refl w.heap.size)
  clear k1 hM
  go_enter Try.func32, Try.ntmps32
  go_upto_region 1 with fail
  generalize w.alloc (.cells #[.bool false, .bool false, .bool false, .int .i64 0] 38) = w1 at *
  generalize hrb : w.heap.size = rb at *
  have HRB := Lib.hid hrb
  clear hrb
  go_wp2_with (first | (go_at_call 31; refine (pHas w1 m g n _ HM.out.1 f hf).mono ?_; rintro _ w2 ⟨rfl, rfl⟩) | fail)
  have hr : readR n (sE M) ((f : Int) * 16 + (p : Int)) = (wE (M f p) : Nat) := by
    have ho : okA n ((f : Int) * 16 + (p : Int)) = true := by unfold okA; simp; omega
    unfold readR
    rw [if_pos ho]
    unfold sE
    rw [show ((f : Int) * 16 + (p : Int)).toNat = f * 16 + p by omega, show (f * 16 + p) / 16 = f by omega, show (f * 16 + p) % 16 = p by omega]
  have hR := mRead w1 m g n (sE M) HM.out.1 ((f : Int) * 16 + (p : Int))
  rw [hr, show okA n ((f : Int) * 16 + (p : Int)) = true by unfold okA; simp; omega] at hR
  refine hR.mono ?_
  rintro _ w3 ⟨rfl, rfl⟩
  clear hR hr
  simp only [eR, if_true]
  obtain ⟨e, he⟩ : ∃ e, M f p = e := ⟨_, rfl⟩
  rw [he] at HOK ⊢
  obtain ⟨v, ww, t, fr⟩ := e
  go_wp2_with fail
  refine (pOf w1 ⟨v, ww, t, fr⟩ HOK.out).mono ?_
  rintro _ w4 ⟨rfl, hk4⟩
  have HOO := Lib.hid (hk4.kp HO.out (by simp))
  have HKK := Lib.hid (HK.out.trans hk4)
  have k5 : Keep [] w4 (w4.alloc (.cells #[.bool v, .bool ww, .bool t, .int .i64 (fr : Int)] 38)) := (Keep.refl _ _).alloc _
  have HO5 := Lib.hid (k5.kp HOO.out (by simp))
  have HK5 := Lib.hid (HKK.out.trans k5)
  have HC5 := Lib.hid (al_new w4 (.cells #[.bool v, .bool ww, .bool t, .int .i64 (fr : Int)] 38) rfl)
  clear hk4 k5 HOO HKK HM HK HO
  unfold EN.val
  simp only
  go_upto_region 7 with fail
  generalize w4.alloc (.cells #[.bool v, .bool ww, .bool t, .int .i64 (fr : Int)] 38) = w5 at *
  generalize w4.heap.size = ci at *
  have r0 := cell_of_ob HC5.out 0
  have r1 := cell_of_ob HC5.out 1
  have r2 := cell_of_ob HC5.out 2
  have r3 := cell_of_ob HC5.out 3
  simp only [List.getElem?_toArray, List.getElem?_cons_zero, List.getElem?_cons_succ] at r0 r1 r2 r3
  have lc := ob_lt HC5.out
  have hth : w5.there rb 0 4 := there_arr HO5.out
  have hsz : (Try.prog.info? 38).map (·.size) = some (eC ⟨v, ww, t, fr⟩).size := size38
  go_wp2_with (refine wpList_store_mid rfl 38 (.tmp 6) (.tmp 45) rfl rb 0 (eC ⟨v, ww, t, fr⟩) rfl rfl hth hsz (eC_one _) ?_)
  refine bodyPost_ret (ret_row_tmp (P := Try.prog) Try.results32 (cs := eC ⟨v, ww, t, fr⟩) (t := 38) (fr := (0, 0)) (g := rb) (store_arr HO5.out rfl) rfl Try.underlying38 rfl (by rw [size38]; rfl)) rfl ?_
  exact ⟨by first | rfl | (rw [he]; rfl), HK5.out.setCells (.inr (by have := HRB.out; omega)) _ _⟩
end Go.Proofs.Ytehmjjfgefopdaa
