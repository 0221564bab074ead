import Derived.Test.YtehmjjfgefopdaaWl
namespace Go.Proofs.Ytehmjjfgefopdaa
open Go.RowKit
set_option linter.unusedSimpArgs false
set_option linter.unusedVariables false
attribute [local go_sem] ob_alloc ob_drew ob_drewN ob_setCell ob_setBlock objSet_cells obMap_map obClock_map isMapI_map keyI_mk findI_nil findI_cons lookRes_some lookRes_none lookRes_some' lookRes_none' setBlock_alloc mapPut

set_option maxRecDepth 100000 in
set_option maxHeartbeats 800000 in
theorem bTake (w : World) (bd m : Nat) (L : LS) (H F : List Nat) (hB : BudAt w bd m L H F) (f k : Nat) (hk : k < 9) (hs : (L k).Pairwise (· < ·)) (hn : (L k).length ≤ 1000) :
    Calls Try.prog 35 #[.pointer (some ⟨bd, 0, none⟩), .agg #[.int .i64 (f : Int), .int .i64 (k : Int)]] w fun o w' => o = .returned (.bool (decide (f ∈ L k))) ∧ ∃ F', BudAt w' bd m (if f ∈ L k then updL L k ((L k).erase f) else L) H F' ∧ Keep F w w' ∧ GF w F F' := by
  obtain ⟨hm, vs, hW, hF⟩ := hB
  have k1 : Keep [] w (w.alloc (.cells #[.int .i64 (f : Int), .int .i64 (k : Int)] 58)) := (Keep.refl _ _).alloc _
  have HX := Lib.hid (al_new w (.cells #[.int .i64 (f : Int), .int .i64 (k : Int)] 58) rfl)
  have HW := Lib.hid (hW.keep hF k1 (fun _ _ hm => by cases hm))
  have HK := Lib.hid k1
  have HF := Lib.hid hF
  clear k1 hW hF
  have hk9 : (k : Int) < 9 := by omega
  go_enter Try.func35, Try.ntmps35
  go_wp2_with fail
  generalize w.alloc (.cells #[.int .i64 (f : Int), .int .i64 (k : Int)] 58) = w1 at *
  generalize w.heap.size = xb at *
  have r0 := cell_of_ob HX.out 0
  have r1 := cell_of_ob HX.out 1
  simp only [List.getElem?_toArray, List.getElem?_cons_zero, List.getElem?_cons_succ] at r0 r1
  have lx := ob_lt HX.out
  have rv := blk_cell HW.out.st (i := 1 + k) (by omega)
  have e1 : bC m hm vs (1 + k) = vs k := by unfold bC; rw [if_neg (by omega), if_neg (by omega)]; congr 1; omega
  rw [e1] at rv
  have lb := ob_lt HW.out.st
  go_region
  have kd : Keep [] w1 w1.drew := (Keep.refl _ _).drew
  have HW2 := Lib.hid (HW.out.keep HF.out kd (fun _ _ hm => by cases hm))
  have HX2 := Lib.hid (kd.kp HX.out (by simp))
  have HK2 := Lib.hid (HK.out.trans kd)
  clear r0 r1 lx rv e1 lb HW HX HK kd
  generalize w1.drew = w2 at *
  have r0 : w2.cell? ⟨xb, 0, none⟩ = some (.int .i64 (f : Int)) := cell_of_ob HX2.out 0
  have lx := ob_lt HX2.out
  go_wp2_with fail
  refine (lSearch w2 (vs k) (L k) (HW2.out.ro k hk) hs hn f).mono ?_
  rintro _ w3 ⟨rfl, q, rfl⟩
  have kd : Keep [] w2 (w2.drewN q) := (Keep.refl _ _).drewN q
  have HW := Lib.hid (HW2.out.keep HF.out kd (fun _ _ hm => by cases hm))
  have HX := Lib.hid (kd.kp HX2.out (by simp))
  have HK := Lib.hid (HK2.out.trans kd)
  clear r0 lx HW2 HX2 HK2 kd
  generalize w2.drewN q = w3 at *
  have c1 : w3.cell? ⟨xb, 1, none⟩ = some (.int .i64 (k : Int)) := cell_of_ob HX.out 1
  have HL := Lib.hid (HW.out.ro k hk)
  by_cases hin : f ∈ L k
  · have HE := Lib.hid (erase_cnt hs hin)
    simp only [decide_eq_true hin, if_pos hin]
    have hi1 : ((cnt f (L k) : Nat) : Int) ≤ 1000 := by have := HE.out.1; omega
    generalize cnt f (L k) = i at *
    have hne : xb ≠ bd := fun e => by have := HX.out; rw [e, HW.out.st] at this; simp at this
    have hk11 : 1 + k < 11 := by omega
    have hw1 : IntKind.i64.wrap ((i : Int) + 1) = (i : Int) + 1 := IntWalk.i64_in _ (by omega)
    have HP : Hid (Calls Try.prog 47 #[vs k, .int .i64 (i : Int), .int .i64 (IntKind.i64.wrap ((i : Int) + 1))] w3.drew _) := Lib.hid (by rw [hw1]; exact lDelete w3.drew (vs k) (L k) (HL.out.keep ((Keep.refl [] w3).drew) (by simp)) i HE.out.1)
    clear hw1
    have HM : Hid (∀ W', Keep (vs k).ownBlock.toList w3 W' → ob W' xb = some (.cells #[.int .i64 (f : Int), .int .i64 (k : Int)] 58 (0, 0)) ∧ ob W' bd = some (.cells (blk (bC m hm vs) 11) 55 (0, 0))) := Lib.hid (fun W' k2 => ⟨k2.kp HX.out (fun hmm => by
      simp only [Option.mem_toList] at hmm
      obtain ⟨cs, h1⟩ := HL.out.ob hmm
      rw [HX.out] at h1
      simp at h1), k2.kp HW.out.st (fun hmm => by
      simp only [Option.mem_toList] at hmm
      exact HW.out.ne_bd hk hmm rfl)⟩)
    have c1d : w3.drew.cell? ⟨xb, 1, none⟩ = some (.int .i64 (k : Int)) := c1
    go_wp2_with fail
    go_region_held3 (fun w' => w'.cell? ⟨xb, 1, none⟩ = some (.int .i64 (k : Int))) (first | (with_reducible assumption) | (with_reducible exact n1 _) | go_keep) (first | (go_at_call 47; refine HP.out.mono ?_; rintro _ w4 ⟨va, vc, rfl, i1, i2, i3⟩; have kk : Keep (vs k).ownBlock.toList w3 w4 := ((Keep.refl _ w3).drew).trans i2; obtain ⟨x1, x2⟩ := HM.out _ kk; have m1 : w4.cell? ⟨xb, 1, none⟩ = some (.int .i64 (k : Int)) := cell_of_ob x1 1; have m2 : w4.cell? ⟨bd, 1 + k, none⟩ = some (bC m hm vs (1 + k)) := blk_cell x2 (i := 1 + k) hk11; have m3 : w4.frozen? ⟨bd, 1 + k, none⟩ = false := free_of_ob x2 _; have n1 : ∀ v, (w4.setCell ⟨bd, 1 + k, none⟩ v).cell? ⟨xb, 1, none⟩ = some (.int .i64 (k : Int)) := fun v => cell_of_ob (st x1 hne) 1))
    clear m1 m2 m3 n1 x1 x2
    rw [HE.out.2] at i1
    have hsz := HK.out.size
    obtain ⟨F', y1, y2, y3, y4⟩ := HW.out.setL HF.out hk kk i1 (fun b hb => .inl (i3 ▸ hb))
    have HY := Lib.hid (show ∃ F', BudAt (w4.setCell ⟨bd, 1 + k, none⟩ (.slice va ((L k).length - 1) vc)) bd m (updL L k ((L k).erase f)) H F' ∧ Keep F w (w4.setCell ⟨bd, 1 + k, none⟩ (.slice va ((L k).length - 1) vc)) ∧ GF w F F' from ⟨F', ⟨hm, _, y1, y2⟩, (HK.out.mono (by simp)).trans y3, fun b hb => by
      rcases y4 b hb with h | h
      · exact .inl h
      · right; omega⟩)
    clear y1 y2 y3 y4 i1 i2 i3 kk HP HM
    generalize w4.setCell ⟨bd, 1 + k, none⟩ (.slice va ((L k).length - 1) vc) = w5 at *
    go_wp2_with fail
    go_ret
    exact ⟨rfl, HY.out⟩
  · simp only [decide_eq_false hin, if_neg hin]
    have HY := Lib.hid (show BudAt w3 bd m L H F from ⟨hm, vs, HW.out, HF.out⟩)
    go_wp2_with fail
    go_ret
    exact ⟨rfl, F, HY.out, HK.out.mono (by simp), GF.refl _ _⟩
end Go.Proofs.Ytehmjjfgefopdaa
