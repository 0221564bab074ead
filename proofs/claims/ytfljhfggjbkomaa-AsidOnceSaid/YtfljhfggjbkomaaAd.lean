import Derived.Test.YtfljhfggjbkomaaAc
namespace Go.Proofs.Ytfljhfggjbkomaa
open Go.RowKit
set_option linter.unusedSimpArgs false
set_option linter.unusedVariables false
attribute [local go_sem] ob_alloc ob_drew ob_drewN ob_setCell ob_setBlock objSet_cells obMap_map obClock_map isMapI_map keyI_mk findI_nil findI_cons lookRes_some lookRes_none lookRes_some' lookRes_none' setBlock_alloc mapPut

def bestR : Option Nat → Int
  | none => -1
  | some j => j
/-- what the reference's Take leaves -/
def rTakeQ (os : List Int) (bs : List Bool) (p : Nat) (L : List Nat) (w : World) (o : Ending) (w' : World) : Prop :=
  match bestK os bs os.length with
  | none => o = .returned (.tuple #[tagV (0, 0), .int .i64 7]) ∧ Keep [] w w'
  | some j => o = .returned (.tuple #[tagV ((j : Int) + 1, inc (os.getD j 0)), .int .i64 0]) ∧ RPoolAt w' p L (os.set j (inc (os.getD j 0))) (bs.set j true) ∧ ∃ S, (∀ x, x ∈ S → x ∉ L ∧ x ≠ p) ∧ Keep S w w'

set_option maxRecDepth 100000 in
set_option maxHeartbeats 800000 in
theorem rTake (w : World) (p : Nat) (L : List Nat) (hp : p < w.heap.size) (os : List Int) (bs : List Bool) (hP : RPoolAt w p L os bs) :
    Calls Try.prog 51 #[.pointer (some ⟨p, 0, none⟩)] w (rTakeQ os bs p L w) := by
  obtain ⟨g, m, hg, hm, gp, mp, gm, h4, h5, h6, h7, h8, h9⟩ := hP
  have cP := cell_of_ob h4
  have hglt := ob_lt h5
  have hmlt := ob_lt h6
  generalize hn : os.length = n at *
  have HN := Lib.hid hn
  have HM := Lib.hid h7
  clear hn h7
  go_enter Try.func51, Try.ntmps51
  go_wp2
  have k0 : Keep [] w (w.alloc (.cells #[.int .i64 0, .int .i64 0] 98)) := (Keep.refl _ _).alloc _
  have e0 := al_new w (.cells #[.int .i64 0, .int .i64 0] 98) rfl
  generalize hw0 : w.alloc (.cells #[.int .i64 0, .int .i64 0] 98) = w0 at *
  have hs0 : w.heap.size < w0.heap.size := ob_lt e0
  clear hw0
  go_loopw [4, 5] (fun b i wr => ∃ k : Nat, k ≤ n ∧ i = .int .i64 k ∧ b = .int .i64 (bestR (bestK os bs k)) ∧ Keep [] w0 wr) (fun _ i _ => n - (intOf i).toNat)
  case atStart => exact ⟨0, by omega, rfl, rfl, Keep.refl _ _⟩
  case round =>
    obtain ⟨k, hkn, rfl, rfl, hkp⟩ := hrel
    have hk' : Keep [] w wr := k0.trans hkp
    have q4 := hk'.kp h4 (by simp)
    have q5 := hk'.kp h5 (by simp)
    have q6 := hk'.kp h6 (by simp)
    have cP' := cell_of_ob q4
    have cG' : ∀ k, k < n → wr.cell? ⟨g, k, none⟩ = some (.int .i64 (os.getD k 0)) := fun k hk => by rw [cell_of_ob q5]; exact i64s_get (by rw [HN.out]; exact hk)
    have cM' : ∀ k, k < n → wr.cell? ⟨m, k, none⟩ = some (.bool (bs.getD k false)) := fun k hk => by rw [cell_of_ob q6]; exact bools_get (by rw [← HM.out]; exact hk)
    have lG := ob_lt q5
    have lM := ob_lt q6
    have lP := ob_lt q4
    by_cases hlt : k < n
    · have cK := cG' k hlt
      have cB := cM' k hlt
      by_cases hb : bs.getD k false = true
      · have hbk2 : bestK os bs (k + 1) = bestK os bs k := by simp only [bestK, hb, if_true]
        have HBK := Lib.hid hbk2
        clear hbk2
        generalize hbv : bestR (bestK os bs k) = bv
        have HBV := Lib.hid hbv
        generalize os.getD k 0 = x at cK
        rw [hb] at cB
        clear hb hbv cG' cM' cP h4 h5 h6 q4 q5 q6
        go_wp2
        go_quiet (fail)
        go_wp2
        go_roundw
        case rel => exact ⟨k + 1, by omega, by go_num, by rw [HBK.out, HBV.out], hkp.drewN _⟩
        case measure => simp [intOf]; omega
      · have hb' : bs.getD k false = false := by simpa using hb
        rw [hb'] at cB
        cases hbk : bestK os bs k with
        | none =>
          have hbk2 : bestK os bs (k + 1) = some k := by simp only [bestK, hb', hbk, Bool.false_eq_true, if_false]
          have HBK := Lib.hid hbk2
          clear hbk2
          simp only [bestR]
          generalize os.getD k 0 = x at cK
          clear hb hb' hbk cG' cM' cP h4 h5 h6 q4 q5 q6
          go_wp2
          go_quiet (fail)
          go_wp2
          go_roundw
          case rel => exact ⟨k + 1, by omega, by go_num, by rw [HBK.out], hkp.drewN _⟩
          case measure => simp [intOf]; omega
        | some j =>
          obtain ⟨hjk, _⟩ := bestK_lt hbk
          have cJ := cG' j (by omega)
          simp only [bestR]
          have hj0 : ((j : Int) < 0) = False := by simp
          by_cases hx : os.getD k 0 < os.getD j 0
          · have hbk2 : bestK os bs (k + 1) = some k := by simp only [bestK, hb', hbk, if_pos hx, Bool.false_eq_true, if_false]
            have HBK := Lib.hid hbk2
            clear hbk2
            generalize os.getD k 0 = x at cK hx
            generalize os.getD j 0 = y at cJ hx
            clear hb hb' hbk cG' cM' cP h4 h5 h6 q4 q5 q6
            go_wp2
            go_quiet (fail)
            go_wp2
            go_roundw
            case rel => exact ⟨k + 1, by omega, by go_num, by rw [HBK.out], hkp.drewN _⟩
            case measure => simp [intOf]; omega
          · have hbk2 : bestK os bs (k + 1) = some j := by simp only [bestK, hb', hbk, if_neg hx, Bool.false_eq_true, if_false]
            have HBK := Lib.hid hbk2
            clear hbk2
            generalize os.getD k 0 = x at cK hx
            generalize os.getD j 0 = y at cJ hx
            clear hb hb' hbk cG' cM' cP h4 h5 h6 q4 q5 q6
            go_wp2
            go_quiet (fail)
            go_wp2
            go_roundw
            case rel => exact ⟨k + 1, by omega, by go_num, by rw [HBK.out], hkp.drewN _⟩
            case measure => simp [intOf]; omega
    · have hkn' : k = n := by omega
      subst hkn'
      have eR := hkp.kp e0 (by simp)
      have cR := cell_of_ob eR
      have fR := free_of_ob eR
      have lR := ob_lt eR
      cases hbk : bestK os bs k with
      | none =>
        have HBK := Lib.hid hbk
        simp only [bestR]
        clear hbk cG' cM' cP h4 h5 h6 q4 q5 q6
        go_wp2
        refine bodyPost_ret (ret_row_tmp (P := Try.prog) Try.results51 (cs := #[.int .i64 0, .int .i64 0]) (t := 98) (fr := (0, 0)) (g := w.heap.size) (by simp [ob_alloc, ob_drew, ob_setCell, ob_setBlock, objSet_cells, Nat.add_assoc]; rw [eR]; simp [objSet_cells]) rfl Try.underlying98 rfl (by kernel_rfl)) rfl ?_
        unfold rTakeQ
        rw [HN.out, HBK.out]
        refine ⟨rfl, ?_⟩
        exact (k0.trans hkp).setCell (.inr (Nat.le_refl _)) _ _ |>.setCell (.inr (Nat.le_refl _)) _ _
      | some j =>
        obtain ⟨hjk, hbj⟩ := bestK_lt hbk
        have cJ := cG' j (by omega)
        have cB := cM' j (by omega)
        have fG := free_of_ob q5
        have fM := free_of_ob q6
        have HBK := Lib.hid hbk
        simp only [bestR]
        have hinc : IntKind.i64.wrap (os.getD j 0 + 1) = inc (os.getD j 0) := rfl
        have hEnd : RPoolAt ((((wr.setCell ⟨g, j, none⟩ (.int .i64 (inc (os.getD j 0)))).setCell ⟨m, j, none⟩ (.bool true)).setCell ⟨w.heap.size, 0, none⟩ (.int .i64 ((j : Int) + 1))).setCell ⟨w.heap.size, 1, none⟩ (.int .i64 (inc (os.getD j 0)))) p L (os.set j (inc (os.getD j 0))) (bs.set j true) := by
          refine ⟨g, m, hg, hm, gp, mp, gm, ?_, ?_, ?_, by rw [List.length_set, List.length_set, HN.out, HM.out], by rw [List.length_set, HN.out]; exact h8, by rw [List.length_set, HN.out]; exact h9⟩
          · rw [List.length_set, HN.out]
            exact st (st (st (st q4 (by omega)) (by omega)) (by omega)) (by omega)
          · rw [← i64s_set]
            exact st (st (st (st_same q5) (by omega)) (by omega)) (by omega)
          · rw [← bools_set]
            exact st (st (st_same (st q6 (by omega))) (by omega)) (by omega)
        generalize hgx : os.getD j 0 = x at *
        generalize hgy : inc x = y at *
        have HX := Lib.hid hgx
        have HY := Lib.hid hgy
        clear hgx hgy q4 q5 h4 h5 h6 cG' cM' cP hbk hbj
        have jn : ((j : Int) < 0) = False := by simp
        go_wp2
        refine bodyPost_ret (ret_row_tmp (P := Try.prog) Try.results51 (cs := #[.int .i64 ((j : Int) + 1), .int .i64 y]) (t := 98) (fr := (0, 0)) (g := w.heap.size) (by simp [ob_alloc, ob_drew, ob_setCell, ob_setBlock, objSet_cells, Nat.add_assoc]; rw [if_neg (by omega), if_neg (by omega), eR]; simp [objSet_cells]) rfl Try.underlying98 rfl (by kernel_rfl)) rfl ?_
        unfold rTakeQ
        rw [HN.out, HBK.out]
        simp only [HX.out, HY.out]
        refine ⟨rfl, hEnd, [g, m], ?_, ?_⟩
        · intro x hx
          simp at hx
          rcases hx with rfl | rfl
          · exact ⟨hg, gp⟩
          · exact ⟨hm, mp⟩
        · exact (((((k0.trans hkp).mono (by simp)).setCell (.inl (by simp)) _ _).setCell (.inl (by simp)) _ _).setCell (.inr (Nat.le_refl _)) _ _).setCell (.inr (Nat.le_refl _)) _ _
end Go.Proofs.Ytfljhfggjbkomaa
