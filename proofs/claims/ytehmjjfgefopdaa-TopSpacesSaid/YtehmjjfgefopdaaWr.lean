import Derived.Test.YtehmjjfgefopdaaWq
namespace Go.Proofs.Ytehmjjfgefopdaa
open Go.RowKit
set_option linter.unusedSimpArgs false
set_option linter.unusedVariables false
attribute [local go_sem] ob_alloc ob_drew ob_drewN ob_setCell ob_setBlock objSet_cells obMap_map obClock_map isMapI_map keyI_mk findI_nil findI_cons lookRes_some lookRes_none lookRes_some' lookRes_none' setBlock_alloc mapPut

def FindP (w : World) (e : EN) : Ending → World → Prop := fun o w' => Keep [] w w' ∧ ∃ c : Int, o = .returned (.tuple #[e.val, .int .i64 c])
set_option maxRecDepth 100000 in
set_option maxHeartbeats 1000000 in
theorem sFind (w : World) (m bd g n r sp : Nat) (M : Nat → Nat → EN) (hM : MemE w m g n M) (hs : ob w sp = some (spO m bd r)) (lv : LV) (hS : Sp M r lv) (hn : ∀ f, lv f ≠ none → f < n) (p : Int) :
    Calls Try.prog 9 #[.pointer (some ⟨sp, 0, none⟩), .int .i64 p] w (FindP w (fEI M r p)) := by
  have k1 : Keep [] w (w.alloc (.cells #[.bool false, .bool false, .bool false, .int .i64 0] 38)) := (Keep.refl _ _).alloc _
  have HO := Lib.hid (al_new w (.cells #[.bool false, .bool false, .bool false, .int .i64 0] 38) rfl)
  have HK := Lib.hid k1
  have HP := Lib.hid (pWalkX · m g n M · r lv hS hn p)
  have HM := Lib.hid (hM.keep k1 (by simp) (by simp))
  have HS := Lib.hid (k1.kp hs (by simp))
  obtain ⟨e, he⟩ : ∃ e, fEI M r p = e := ⟨_, rfl⟩
  unfold WkX at HP
  rw [he] at HP ⊢
  obtain ⟨v, ww, t, fr⟩ := e
  unfold EN.val at HP
  clear k1 hM hs hS hn he
  go_enter Try.func9, Try.ntmps9
  go_wp2_with fail
  generalize w.alloc (.cells #[.bool false, .bool false, .bool false, .int .i64 0] 38) = w1 at *
  obtain ⟨rb, hrb⟩ : ∃ rb, w.heap.size = rb := ⟨_, rfl⟩
  have HRB := Lib.hid hrb
  rw [hrb] at HO
  simp only [hrb]
  clear hrb
  have c0 : w1.cell? ⟨sp, 0, none⟩ = some (.pointer (some ⟨m, 0, none⟩)) := cell_of_ob HS.out 0
  have c2 : w1.cell? ⟨sp, 2, none⟩ = some (.int .i64 (r : Int)) := cell_of_ob HS.out 2
  have HQ : Hid (∀ W, Keep [] w1 W → Calls Try.prog 13 #[.pointer (some ⟨m, 0, none⟩), .int .i64 (r : Int), .int .i64 p] W _) := Lib.hid (fun W k => HP.out W (HM.out.keep k (by simp) (by simp)))
  have a0 : ∀ o, (w1.alloc o).drew.cell? ⟨sp, 0, none⟩ = some (.pointer (some ⟨m, 0, none⟩)) := fun o => cell_of_ob (dr (al HS.out)) 0
  have a2 : ∀ o, (w1.alloc o).drew.cell? ⟨sp, 2, none⟩ = some (.int .i64 (r : Int)) := fun o => cell_of_ob (dr (al HS.out)) 2
  have hne : sp ≠ w1.heap.size := by have := ob_lt HS.out; omega
  have hne2 : w1.heap.size ≠ sp := hne.symm
  go_region_held3 (fun w' => w'.cell? ⟨sp, 0, none⟩ = some (.pointer (some ⟨m, 0, none⟩)) ∧ w'.cell? ⟨sp, 2, none⟩ = some (.int .i64 (r : Int))) (first | (with_reducible exact ⟨c0, c2⟩) | (with_reducible exact ⟨a0 _, a2 _⟩) | (refine ⟨?_, ?_⟩ <;> with_reducible assumption) | (with_reducible exact ⟨b0 _, b2 _⟩) | go_keep) (first | (go_at_call 13; refine (HQ.out _ ((Keep.refl _ _).alloc _).drew).mono ?_; rintro _ w4 ⟨hk4, v4, c4, rfl, -⟩; have y4 := hk4.kp (dr (al_new w1 (.cells #[.bool false, .bool false, .bool false, .int .i64 0] 38) rfl)) (fun h => by cases h); have m0 : w4.cell? ⟨sp, 0, none⟩ = some (.pointer (some ⟨m, 0, none⟩)) := cell_of_ob (hk4.kp (dr (al HS.out)) (fun h => by cases h)) 0; have m2 : w4.cell? ⟨sp, 2, none⟩ = some (.int .i64 (r : Int)) := cell_of_ob (hk4.kp (dr (al HS.out)) (fun h => by cases h)) 2; have d0 : w4.cell? ⟨w1.heap.size, 0, none⟩ = some (.bool false) := cell_of_ob y4 0; have d1 : w4.cell? ⟨w1.heap.size, 1, none⟩ = some (.bool false) := cell_of_ob y4 1; have d2 : w4.cell? ⟨w1.heap.size, 2, none⟩ = some (.bool false) := cell_of_ob y4 2; have d3 : w4.cell? ⟨w1.heap.size, 3, none⟩ = some (.int .i64 0) := cell_of_ob y4 3; have g0 := free_of_ob y4 0; have g1 := free_of_ob y4 1; have g2 := free_of_ob y4 2; have g3 := free_of_ob y4 3) | (go_at_call 13; refine (HQ.out _ ((Keep.refl _ _).drew)).mono ?_; rintro _ w4 ⟨hk4, v4, c4, rfl, -⟩; have x4 := hk4.kp (dr HS.out) (fun h => by cases h); have m0 : w4.cell? ⟨sp, 0, none⟩ = some (.pointer (some ⟨m, 0, none⟩)) := cell_of_ob x4 0; have m2 : w4.cell? ⟨sp, 2, none⟩ = some (.int .i64 (r : Int)) := cell_of_ob x4 2; have b0 : ∀ o, (w4.alloc o).cell? ⟨sp, 0, none⟩ = some (.pointer (some ⟨m, 0, none⟩)) := fun o => cell_of_ob (al x4) 0; have b2 : ∀ o, (w4.alloc o).cell? ⟨sp, 2, none⟩ = some (.int .i64 (r : Int)) := fun o => cell_of_ob (al x4) 2))
  · clear m0 m2 b0 b2 a0 a2 c0 c2 hne hne2
    have hX := al_new w4 (.cells #[.bool v, .bool ww, .bool t, .int .i64 (fr : Int)] 38) rfl
    have kk : Keep [] w w4 := (HK.out.drew).trans hk4
    have hR : ob (w4.alloc (.cells #[.bool v, .bool ww, .bool t, .int .i64 (fr : Int)] 38)) rb = _ := al (hk4.kp (dr HO.out) (fun h => by cases h))
    have hk : Keep [] w (w4.alloc (.cells #[.bool v, .bool ww, .bool t, .int .i64 (fr : Int)] 38)) := kk.alloc _
    have HX := Lib.hid hX
    have HR := Lib.hid hR
    have HKK := Lib.hid hk
    clear kk hk4 x4
    generalize w4.heap.size = bx at *
    clear hX hR hk
    generalize (w4.alloc (.cells #[.bool v, .bool ww, .bool t, .int .i64 (fr : Int)] 38)) = w5 at *
    have x0 := cell_of_ob HX.out 0
    have x1 := cell_of_ob HX.out 1
    have x2 := cell_of_ob HX.out 2
    have x3 := cell_of_ob HX.out 3
    simp only [List.getElem?_toArray, List.getElem?_cons_zero, List.getElem?_cons_succ] at x0 x1 x2 x3
    have lc := ob_lt HX.out
    have hth : w5.there rb 0 4 := there_arr HR.out
    have hsz : (Try.prog.info? 38).map (·.size) = some (eC ⟨v, ww, t, fr⟩).size := size38
    go_wp2_with (first | ((with_reducible refine at_store 38 4 23 ?_); refine wpList_store_mid rfl 38 (.tmp 4) (.tmp 23) rfl rb 0 (eC ⟨v, ww, t, fr⟩) rfl rfl hth hsz (eC_one _) ?_))
    refine bodyPost_ret (ret_row_tmp (P := Try.prog) Try.results9 (cs := eC ⟨v, ww, t, fr⟩) (t := 38) (fr := (0, 0)) (g := rb) (store_arr HR.out rfl) rfl Try.underlying38 rfl (by rw [size38]; rfl)) rfl ?_
    exact ⟨HKK.out.setCells (.inr (by have := HRB.out; omega)) _ _, _, rfl⟩
  · clear m0 m2 a0 a2 c0 c2 hne d0 d1 d2 d3 g0 g1 g2 g3
    have hX : ob ((((w4.setCell ⟨w1.heap.size, 0, none⟩ (.bool v)).setCell ⟨w1.heap.size, 1, none⟩ (.bool ww)).setCell ⟨w1.heap.size, 2, none⟩ (.bool t)).setCell ⟨w1.heap.size, 3, none⟩ (.int .i64 (fr : Int))) w1.heap.size = some (.cells #[.bool v, .bool ww, .bool t, .int .i64 (fr : Int)] 38 (0, 0)) := st_same (st_same (st_same (st_same y4)))
    have kk : Keep [] w w4 := ((HK.out.alloc _).drew).trans hk4
    have hnr : rb ≠ w1.heap.size := by have := ob_lt HO.out; omega
    have hR : ob ((((w4.setCell ⟨w1.heap.size, 0, none⟩ (.bool v)).setCell ⟨w1.heap.size, 1, none⟩ (.bool ww)).setCell ⟨w1.heap.size, 2, none⟩ (.bool t)).setCell ⟨w1.heap.size, 3, none⟩ (.int .i64 (fr : Int))) rb = _ := st (st (st (st (hk4.kp (dr (al HO.out)) (fun h => by cases h)) hnr) hnr) hnr) hnr
    have hww := HK.out.size
    have hk : Keep [] w ((((w4.setCell ⟨w1.heap.size, 0, none⟩ (.bool v)).setCell ⟨w1.heap.size, 1, none⟩ (.bool ww)).setCell ⟨w1.heap.size, 2, none⟩ (.bool t)).setCell ⟨w1.heap.size, 3, none⟩ (.int .i64 (fr : Int))) := (((kk.setCell (.inr hww) _ _).setCell (.inr hww) _ _).setCell (.inr hww) _ _).setCell (.inr hww) _ _
    have HX := Lib.hid hX
    have HR := Lib.hid hR
    have HKK := Lib.hid hk
    clear kk hk4 y4 hnr hww hne2
    generalize w1.heap.size = bx at *
    clear hX hR hk
    generalize ((((w4.setCell ⟨bx, 0, none⟩ (.bool v)).setCell ⟨bx, 1, none⟩ (.bool ww)).setCell ⟨bx, 2, none⟩ (.bool t)).setCell ⟨bx, 3, none⟩ (.int .i64 (fr : Int))) = w5 at *
    have x0 := cell_of_ob HX.out 0
    have x1 := cell_of_ob HX.out 1
    have x2 := cell_of_ob HX.out 2
    have x3 := cell_of_ob HX.out 3
    simp only [List.getElem?_toArray, List.getElem?_cons_zero, List.getElem?_cons_succ] at x0 x1 x2 x3
    have lc := ob_lt HX.out
    have hth : w5.there rb 0 4 := there_arr HR.out
    have hsz : (Try.prog.info? 38).map (·.size) = some (eC ⟨v, ww, t, fr⟩).size := size38
    go_wp2_with (first | ((with_reducible refine at_store 38 4 23 ?_); refine wpList_store_mid rfl 38 (.tmp 4) (.tmp 23) rfl rb 0 (eC ⟨v, ww, t, fr⟩) rfl rfl hth hsz (eC_one _) ?_))
    refine bodyPost_ret (ret_row_tmp (P := Try.prog) Try.results9 (cs := eC ⟨v, ww, t, fr⟩) (t := 38) (fr := (0, 0)) (g := rb) (store_arr HR.out rfl) rfl Try.underlying38 rfl (by rw [size38]; rfl)) rfl ?_
    exact ⟨HKK.out.setCells (.inr (by have := HRB.out; omega)) _ _, _, rfl⟩
end Go.Proofs.Ytehmjjfgefopdaa
