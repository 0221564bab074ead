import Derived.Test.YtfljhfggjbkomaaAf
namespace Go.Proofs.Ytfljhfggjbkomaa
open Go.RowKit
set_option linter.unusedSimpArgs false
set_option linter.unusedVariables false
attribute [local go_sem] ob_alloc ob_drew ob_drewN ob_setCell ob_setBlock objSet_cells obMap_map obClock_map isMapI_map keyI_mk findI_nil findI_cons lookRes_some lookRes_none lookRes_some' lookRes_none' setBlock_alloc mapPut

theorem count_both : ∀ bs : List Bool, bs.count true + bs.count false = bs.length
  | [] => rfl
  | b :: bs => by
    have := count_both bs
    cases b <;> simp [List.count_cons] <;> omega

set_option maxRecDepth 100000 in
set_option maxHeartbeats 400000 in
theorem aLeft (w : World) (p : Nat) (L : List Nat) (os : List Int) (bs : List Bool) (hP : PoolAt w p L os bs) :
    Calls Try.prog 54 #[.pointer (some ⟨p, 0, none⟩)] w fun o w' => o = .returned (.int .i64 (bs.count false : Nat)) ∧ Keep [] w w' := by
  obtain ⟨g, m, l, hg, hm, gp, mp, gm, h4, h5, h6, h7, h8, h9⟩ := hP
  have c4 := cell_of_ob h4
  have hlen := (h6.keep (Keep.drew (Keep.refl [] _)) (by simp)).len (P := Try.prog) Try.underlying127 Try.underlying3 3
  have hc := count_both bs
  have h71 := h7.len
  have h72 := h7.same
  have hdiff : IntKind.i64.wrap ((os.length : Int) - (l.length : Int)) = (bs.count false : Nat) := by
    rw [IntWalk.i64_in _ (by omega)]; omega
  have l4 := ob_lt h4
  generalize bs.count false = r at *
  generalize os.length = n at *
  generalize l.length = k at *
  have hb : k ≤ 8 := by omega
  clear h4 h5 h6 h7 hc h71 h72
  go_enter Try.func54, Try.ntmps54
  go_wp2
  go_region
  go_wp2
  go_ret
  exact ⟨rfl, by repeat (first | exact Keep.refl _ _ | refine Keep.drew ?_ | refine Keep.drewN ?_ _ | refine Keep.setCell ?_ (by first | (left; simp; done) | (right; simp; done) | (right; omega) | (right; simp; omega)) _ _ | refine Keep.setBlock ?_ (by first | (left; simp; done) | (right; simp; done) | (right; omega) | (right; simp; omega)) _ | refine Keep.alloc ?_ _ | refine Keep.andThen ?_ (by assumption) (by first | (simp; done) | (simp; omega) | (intro x hx; simp at hx; simp; omega)))⟩

set_option maxRecDepth 100000 in
set_option maxHeartbeats 400000 in
theorem rLeft (w : World) (p : Nat) (L : List Nat) (os : List Int) (bs : List Bool) (hP : RPoolAt w p L os bs) :
    Calls Try.prog 55 #[.pointer (some ⟨p, 0, none⟩)] w fun o w' => o = .returned (.int .i64 (bs.count false : Nat)) ∧ Keep [] w w' := by
  obtain ⟨g, m, hg, hm, gp, mp, gm, h4, h5, h6, h7, h8, h9⟩ := hP
  have c4 := cell_of_ob h4
  have cM : ∀ k, k < os.length → w.cell? ⟨m, k, none⟩ = some (.bool (bs.getD k false)) := fun k hk => by rw [cell_of_ob h6]; exact bools_get (by rw [← h7]; exact hk)
  have H7 := Lib.hid h7
  generalize hn : os.length = n at *
  have HN := Lib.hid hn
  clear h4 h5 h6 h7 hn
  go_enter Try.func55, Try.ntmps55
  go_wp2
  go_loopw [3, 4] (fun c i wr => ∃ k : Nat, k ≤ n ∧ i = .int .i64 k ∧ c = .int .i64 ((bs.take k).count false : Nat) ∧ Keep [] w wr ∧ wr = w) (fun _ i _ => n - (intOf i).toNat)
  case atStart => exact ⟨0, by omega, rfl, rfl, Keep.refl _ _, rfl⟩
  case round =>
    obtain ⟨k, hkn, rfl, rfl, hkp, rfl⟩ := hrel
    by_cases hlt : k < n
    · have cK := cM k hlt
      have hkb : k < bs.length := by rw [← H7.out]; exact hlt
      have hcl : (bs.take k).count false ≤ 8 := Nat.le_trans (List.count_le_length) (by simp; omega)
      have htk : bs.take (k + 1) = bs.take k ++ [bs.getD k false] := by
        rw [List.take_add_one, List.getElem?_eq_getElem hkb]; simp [List.getD, List.getElem?_eq_getElem hkb]
      cases hb : bs.getD k false
      · have hcn : (bs.take (k + 1)).count false = (bs.take k).count false + 1 := by rw [htk, List.count_append, hb]; rfl
        have HC := Lib.hid hcn
        rw [hb] at cK
        generalize (bs.take k).count false = c at *
        clear hcn htk hb cM
        go_wp2
        go_roundw
        case rel => exact ⟨k + 1, by omega, by go_num, by rw [HC.out]; go_num, hkp, trivial⟩
        case measure => simp [intOf]; omega
      · have hcn : (bs.take (k + 1)).count false = (bs.take k).count false := by rw [htk, List.count_append, hb]; rfl
        have HC := Lib.hid hcn
        rw [hb] at cK
        generalize (bs.take k).count false = c at *
        clear hcn htk hb cM
        go_wp2
        go_roundw
        case rel => exact ⟨k + 1, by omega, by go_num, by rw [HC.out], hkp, trivial⟩
        case measure => simp [intOf]; omega
    · have hkn' : k = n := by omega
      subst hkn'
      have HE : (bs.take k).count false = bs.count false := by rw [H7.out, List.take_length]
      have HX := Lib.hid HE
      generalize (bs.take k).count false = c at *
      clear cM HE
      go_wp2
      go_ret
      exact ⟨ret_i (by rw [← HX.out]), hkp⟩
end Go.Proofs.Ytfljhfggjbkomaa
