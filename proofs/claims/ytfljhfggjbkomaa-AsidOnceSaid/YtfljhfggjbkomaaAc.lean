import Derived.Test.YtfljhfggjbkomaaAb
namespace Go.Proofs.Ytfljhfggjbkomaa
open Go.RowKit
set_option linter.unusedSimpArgs false
set_option linter.unusedVariables false
attribute [local go_sem] ob_alloc ob_drew ob_drewN ob_setCell ob_setBlock objSet_cells obMap_map obClock_map isMapI_map keyI_mk findI_nil findI_cons lookRes_some lookRes_none lookRes_some' lookRes_none' setBlock_alloc mapPut

def bestV : Option Nat → Int
  | none => 0
  | some j => j + 1
theorem zeroTag : ∀ w, (zeroValue 93).run Try.prog w = .ok (tagV (0, 0)) w := by
  intro w; go_simp; rfl
def inc (x : Int) : Int := IntKind.i64.wrap (x + 1)

/-! ### Take -/
/-- what Take leaves -/
def takeQ (os : List Int) (bs : List Bool) (p : Nat) (L : List Nat) (w : World) (o : Ending) (w' : World) : Prop :=
  match bestK os bs os.length with
  | none => o = .returned (.tuple #[tagV (0, 0), .int .i64 7]) ∧ Keep [] w w'
  | some j => o = .returned (.tuple #[tagV ((j : Int) + 1, inc (os.getD j 0)), .int .i64 0]) ∧ PoolAt w' p L (os.set j (inc (os.getD j 0))) (bs.set j true) ∧ ∃ S, (∀ x, x ∈ S → x ∉ L ∧ x ≠ p) ∧ Keep S w w'
set_option maxRecDepth 100000 in
set_option maxHeartbeats 800000 in
theorem aTake (w : World) (p : Nat) (L : List Nat) (hp : p < w.heap.size) (os : List Int) (bs : List Bool) (hP : PoolAt w p L os bs) :
    Calls Try.prog 50 #[.pointer (some ⟨p, 0, none⟩)] w (takeQ os bs p L w) := by
  obtain ⟨g, m, l, hg, hm, gp, mp, gm, h4, h5, h6, h7, h8, h9⟩ := hP
  have cP := cell_of_ob h4
  have hglt := ob_lt h5
  have hmlt := h6.lt
  have cG : ∀ k, k < os.length → w.cell? ⟨g, k, none⟩ = some (.int .i64 (os.getD k 0)) := fun k hk => by rw [cell_of_ob h5]; exact i64s_get hk
  generalize hn : os.length = n at *
  have HN := Lib.hid hn
  clear hn
  go_enter Try.func50, Try.ntmps50
  go_wp2
  have k0 : Keep [] w (w.alloc (.cells #[.int .i64 0, .int .i64 0] 93)) := (Keep.refl _ _).alloc _
  have e0 := al_new w (.cells #[.int .i64 0, .int .i64 0] 93) rfl
  generalize hw0 : w.alloc (.cells #[.int .i64 0, .int .i64 0] 93) = w0 at *
  have hs0 : w.heap.size < w0.heap.size := ob_lt e0
  clear hw0
  go_loopw [4, 15] (fun b i wr => ∃ k : Nat, k ≤ n ∧ i = .int .i64 k ∧ b = .int .i64 (bestV (bestK os bs k)) ∧ Keep [] w0 wr) (fun _ i _ => n - (intOf i).toNat)
  case atStart => exact ⟨0, by omega, rfl, rfl, Keep.refl _ _⟩
  case round =>
    obtain ⟨k, hkn, rfl, rfl, hkp⟩ := hrel
    have hk' : Keep [] w wr := k0.trans hkp
    have q5 := hk'.kp h5 (by simp)
    have q4 := hk'.kp h4 (by simp)
    have q6 := h6.keep hk' (by simp)
    have cP' := cell_of_ob q4
    have cG' : ∀ k, k < n → wr.cell? ⟨g, k, none⟩ = some (.int .i64 (os.getD k 0)) := fun k hk => by rw [cell_of_ob q5]; exact i64s_get (by rw [HN.out]; exact hk)
    have lG := ob_lt q5
    have lP := ob_lt q4
    by_cases hlt : k < n
    · have hlook := q6.look Try.underlying127 Try.underlying3 zeroTag ((k : Int) + 1)
      rw [h7.look, givenF, show ((k : Int) + 1 - 1).toNat = k by omega] at hlook
      have cK := cG' k hlt
      by_cases hb : bs.getD k false = true
      · rw [if_pos ⟨by omega, hb⟩] at hlook
        simp only [lookL, tagV] at hlook
        have hbk2 : bestK os bs (k + 1) = bestK os bs k := by simp only [bestK, hb, if_true]
        have HBK := Lib.hid hbk2
        clear hbk2
        generalize hbv : bestV (bestK os bs k) = bv
        have HBV := Lib.hid hbv
        generalize os.getD k 0 = x at hlook cK
        clear hb hbv cG cG' cP h4 h5 h6 h7 q4 q5 q6
        go_wp2
        go_roundw
        case rel => exact ⟨k + 1, by omega, by go_num, by rw [HBK.out, HBV.out], hkp.alloc _⟩
        case measure => simp [intOf]; omega
      · rw [if_neg (fun h => hb h.2)] at hlook
        simp only [lookL, tagV] at hlook
        have hb' : bs.getD k false = false := by simpa using hb
        cases hbk : bestK os bs k with
        | none =>
          have hbk2 : bestK os bs (k + 1) = some k := by simp only [bestK, hb', hbk, Bool.false_eq_true, if_false]
          have HBK := Lib.hid hbk2
          clear hbk2
          simp only [bestV]
          generalize os.getD k 0 = x at cK
          clear hb hb' hbk cG cG' cP h4 h5 h6 h7 q4 q5 q6
          go_wp2
          go_roundw
          case rel => exact ⟨k + 1, by omega, by go_num, by rw [HBK.out], hkp.alloc _⟩
          case measure => simp [intOf]; omega
        | some j =>
          obtain ⟨hjk, _⟩ := bestK_lt hbk
          have cJ := cG' j (by omega)
          simp only [bestV]
          by_cases hx : os.getD k 0 < os.getD j 0
          · have hbk2 : bestK os bs (k + 1) = some k := by simp only [bestK, hb', hbk, if_pos hx, Bool.false_eq_true, if_false]
            have HBK := Lib.hid hbk2
            clear hbk2
            generalize os.getD k 0 = x at cK hx
            generalize os.getD j 0 = y at cJ hx
            clear hb hb' hbk cG cG' cP h4 h5 h6 h7 q4 q5 q6
            go_wp2
            go_roundw
            case rel => exact ⟨k + 1, by omega, by go_num, by rw [HBK.out], hkp.alloc _⟩
            case measure => simp [intOf]; omega
          · have hbk2 : bestK os bs (k + 1) = some j := by simp only [bestK, hb', hbk, if_neg hx, Bool.false_eq_true, if_false]
            have HBK := Lib.hid hbk2
            clear hbk2
            generalize os.getD k 0 = x at cK hx
            generalize os.getD j 0 = y at cJ hx
            clear hb hb' hbk cG cG' cP h4 h5 h6 h7 q4 q5 q6
            go_wp2
            go_roundw
            case rel => exact ⟨k + 1, by omega, by go_num, by rw [HBK.out], hkp.alloc _⟩
            case measure => simp [intOf]; omega
    · have hkn' : k = n := by omega
      subst hkn'
      have eR := hkp.kp e0 (by simp)
      have cR := cell_of_ob eR
      have fR := free_of_ob eR
      have lR := ob_lt eR
      cases hbk : bestK os bs k with
      | none =>
        have HBK := Lib.hid hbk
        simp only [bestV]
        clear hbk cG cG' cP h4 h5 h6 h7 q4 q5 q6
        go_wp2
        refine bodyPost_ret (ret_row_tmp (P := Try.prog) Try.results50 (cs := #[.int .i64 0, .int .i64 0]) (t := 93) (fr := (0, 0)) (g := w.heap.size) (by simp [ob_alloc, ob_drew, ob_setCell, ob_setBlock, objSet_cells, Nat.add_assoc]; rw [eR]; simp [objSet_cells]) rfl Try.underlying93 rfl (by kernel_rfl)) rfl ?_
        unfold takeQ
        rw [HN.out, HBK.out]
        refine ⟨rfl, ?_⟩
        exact (k0.trans hkp).setCell (.inr (Nat.le_refl _)) _ _ |>.setCell (.inr (Nat.le_refl _)) _ _
      | some j =>
        obtain ⟨hjk, hbj⟩ := bestK_lt hbk
        have cJ := cG' j (by omega)
        have fG := free_of_ob q5
        obtain ⟨hnone, hgiv⟩ := h7.take j (by rw [HN.out]; omega) hbj (inc (os.getD j 0))
        have HBK := Lib.hid hbk
        simp only [bestV]
        have q5' : ob (wr.setCell ⟨g, j, none⟩ (.int .i64 (inc (os.getD j 0)))) g = some (.cells (i64s (os.set j (inc (os.getD j 0)))).toArray 3 (0, 0)) := by rw [← i64s_set]; exact st_same q5
        have hkg : Keep [g] wr (wr.setCell ⟨g, j, none⟩ (.int .i64 (inc (os.getD j 0)))) := (Keep.refl _ _).setCell (.inl (by simp)) _ _
        have q4' := hkg.kp q4 (by simp; omega)
        have q6' := q6.keep hkg (by simp; omega)
        have eR' := hkg.kp eR (by simp; omega)
        have hs1 : (wr.setCell ⟨g, j, none⟩ (.int .i64 (inc (os.getD j 0)))).heap.size = wr.heap.size := by simp
        have hinc : IntKind.i64.wrap (os.getD j 0 + 1) = inc (os.getD j 0) := rfl
        have k1 : Keep [g] w (wr.setCell ⟨g, j, none⟩ (.int .i64 (inc (os.getD j 0)))) := ((k0.trans hkp).mono (by simp)).andThen hkg (by simp)
        generalize hgx : os.getD j 0 = x at *
        generalize hgy : inc x = y at *
        have HX := Lib.hid hgx
        have HY := Lib.hid hgy
        clear hgx hgy
        obtain ⟨w3, hput, hM3, hk3, hs3⟩ := (q6'.keep (((Keep.refl [] _).alloc (.cells #[.int .i64 ((j : Int) + 1), .int .i64 y] 93)).drew) (by simp)).put_new Try.underlying127 Try.underlying3 ((j : Int) + 1) ((j : Int) + 1, y) hnone
        simp only [tagV] at hput
        have r4 := hk3.kp (dr (al q4')) (by simp; omega)
        have r5 := hk3.kp (dr (al q5')) (by simp; omega)
        have rR := hk3.kp (dr (al eR')) (by simp; omega)
        have rN := hk3.kp (dr (al_new (wr.setCell ⟨g, j, none⟩ (.int .i64 y)) (.cells #[.int .i64 ((j : Int) + 1), .int .i64 y] 93) hs1.symm)) (by simp; omega)
        have cN := cell_of_ob rN
        have cR3 := cell_of_ob rR
        have fR3 := free_of_ob rR
        have lR3 := ob_lt rR
        have lN3 := ob_lt rN
        have kE : Keep [g, m] w w3 := ((k1.mono (by simp)).alloc _).drew.andThen hk3 (by simp)
        have hEnd : PoolAt ((w3.setCell ⟨w.heap.size, 0, none⟩ (.int .i64 ((j : Int) + 1))).setCell ⟨w.heap.size, 1, none⟩ (.int .i64 y)) p L (os.set j y) (bs.set j true) := by
          have kk : Keep [w.heap.size] w3 ((w3.setCell ⟨w.heap.size, 0, none⟩ (.int .i64 ((j : Int) + 1))).setCell ⟨w.heap.size, 1, none⟩ (.int .i64 y)) := ((Keep.refl _ _).setCell (.inl (by simp)) _ _).setCell (.inl (by simp)) _ _
          refine ⟨g, m, _, hg, hm, gp, mp, gm, ?_, kk.kp r5 (by simp; omega), hM3.keep kk (by simp; omega), hgiv, by rw [List.length_set, HN.out]; exact h8, by rw [List.length_set, HN.out]; exact h9⟩
          rw [List.length_set, HN.out]
          exact kk.kp r4 (by simp; omega)
        clear hnone hgiv q4 q5 q6 q4' q5' q6' h4 h5 h6 h7 hM3 cG cG' cP r4 r5 hbk hbj eR eR' rN
        go_wp2
        go_region
        go_wp2
        refine bodyPost_ret (ret_row_tmp (P := Try.prog) Try.results50 (cs := #[.int .i64 ((j : Int) + 1), .int .i64 y]) (t := 93) (fr := (0, 0)) (g := w.heap.size) (by simp [ob_alloc, ob_drew, ob_setCell, ob_setBlock, objSet_cells, Nat.add_assoc]; rw [rR]; simp [objSet_cells]) rfl Try.underlying93 rfl (by kernel_rfl)) rfl ?_
        unfold takeQ
        rw [HN.out, HBK.out]
        simp only [HX.out, HY.out]
        refine ⟨rfl, hEnd, [g, m], ?_, (kE.setCell (.inr (Nat.le_refl _)) _ _).setCell (.inr (Nat.le_refl _)) _ _⟩
        intro x hx
        simp at hx
        rcases hx with rfl | rfl
        · exact ⟨hg, gp⟩
        · exact ⟨hm, mp⟩
end Go.Proofs.Ytfljhfggjbkomaa
