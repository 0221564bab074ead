import Derived.Test.YtjiienoflgolpaaQb
import Derived.Test.YtjiienoflgolpaaLibB
namespace Go.Proofs.Ytjiienoflgolpaa
open Go.RowKit
set_option linter.unusedSimpArgs false
set_option linter.unusedVariables false
open Go.Conc
attribute [local go_sem] ob_alloc ob_drew ob_drewN ob_setCell ob_setBlock objSet_cells obMap_map obClock_map isMapI_map keyI_mk findI_nil findI_cons lookRes_some lookRes_none lookRes_some' lookRes_none' setBlock_alloc mapPut

theorem rd_one (w : World) (x : Int) : RdU (w.alloc (.cells #[.int .u64 x] 44)) (.slice (some ⟨w.heap.size, 0, none⟩) 1 1) [x] :=
  Rd.row (al_new w (.cells #[.int .u64 x] 44) rfl) rfl (by omega) (by unfold maxLen; omega) rfl
theorem rd_two (w : World) (x y : Int) : RdU (w.alloc (.cells #[.int .u64 x, .int .u64 y] 44)) (.slice (some ⟨w.heap.size, 0, none⟩) 2 2) [x, y] :=
  Rd.row (al_new w (.cells #[.int .u64 x, .int .u64 y] 44) rfl) rfl (by omega) (by unfold maxLen; omega) rfl
theorem zeros_list (n : Nat) : (zeros (.int .u64 0) n).toList = u64s (List.replicate n 0) := by
  have h : zeros (.int .u64 0) n = blk (fun _ => .int .u64 0) n := madeCells_same (.int .u64 0) 1 n (by omega)
  rw [h]
  apply List.ext_getElem
  · simp [blk, u64s]
  · intro i h1 h2
    simp [blk, u64s]
theorem rd_zeros (w : World) (n : Nat) (hn : n ≤ 1000) : RdU (w.alloc (.cells (zeros (.int .u64 0) n) 44)) (.slice (some ⟨w.heap.size, 0, none⟩) n n) (List.replicate n 0) :=
  Rd.row (al_new w (.cells (zeros (.int .u64 0) n) 44) rfl) (by rw [u64s_length, List.length_replicate]) (by omega) (by unfold maxLen; omega) (by
    rw [zeros_list, List.take_of_length_le (by rw [u64s_length, List.length_replicate]; omega)])
/-- an owned row of some elements, its cells -/
theorem owns_pos {w : World} {base : Nat} {v : Value} {n : Nat} {xs : List Value} (h : w.ownsRow base 44 1 v n xs) (h0 : 0 < n) :
    ∃ g cap, v = .slice (some ⟨g, 0, none⟩) n cap ∧ base ≤ g ∧ g < w.heap.size ∧ n ≤ cap ∧ ∀ i x, xs[i]? = some x → w.cell? ⟨g, i, none⟩ = some x ∧ w.frozen? ⟨g, i, none⟩ = false := by
  obtain ⟨hl, h | ⟨g, cap, cur, rfl, hb, hg, hn, hm, hc, ht⟩⟩ := h
  · omega
  · refine ⟨g, cap, rfl, hb, ob_lt (w := w) hg, hn, fun i x hi => ⟨?_, free_of_ob hg i⟩⟩
    rw [cell_of_ob (w := w) hg]
    rw [← ht, List.getElem?_take] at hi
    split at hi
    · simpa using hi
    · cases hi
set_option maxRecDepth 100000 in
set_option maxHeartbeats 800000 in
theorem awake18 (w : World) : Calls Try.prog 13 #[] w fun e w' => e = .returned (.bool true) ∧ Keep [] w w' := by
  go_enter Try.func13, Try.ntmps13
  go_wp2_with fail
  refine (qNew_yes w 1 4 (by omega) (by omega) (by omega) (by omega)).mono ?_
  rintro _ w1 ⟨rfl, hP1, hk1⟩
  have hpc := hP1.ne
  have hb : w.heap.size ≤ w.heap.size := Nat.le_refl _
  have hb2 : w.heap.size ≤ w.heap.size + 1 := by omega
  generalize hp : w.heap.size + 1 = p at *
  generalize hc : w.heap.size = c at *
  have H1 := Lib.hid (And.intro hP1 (And.intro hk1 (And.intro hpc (And.intro hp hc))))
  clear hP1 hk1 hpc hb hb2 hp hc
  go_wp2_with fail
  have hP2 := H1.out.1.keep ((Keep.refl [] w1).alloc (.cells #[.int .u64 7] 44)) (by simp) (by simp)
  have hr2 := rd_one w1 7
  have hk2 := H1.out.2.1.trans ((Keep.refl [] w1).alloc (.cells #[.int .u64 7] 44))
  refine (qSend_ok _ p c 1 4 [] hP2 _ 1 1 [7] hr2 (by omega) (by omega) (by omega) (by simp)).mono ?_
  rintro _ w3 ⟨rfl, v', hP3, ho3, hk3⟩
  have hk4 := hk2.andThen hk3 (by intro x hx; right; simp at hx; have := H1.out.2.2.2.2; omega)
  have H3 := Lib.hid (And.intro hP3 (And.intro ho3 hk4))
  clear hP2 hr2 hk2 hP3 ho3 hk3 hk4
  go_wp2_with fail
  have hP5 := H3.out.1.keep ((Keep.refl [] w3).alloc (.cells #[.int .u64 8] 44)) (by simp) (by simp)
  have hr5 := rd_one w3 8
  refine (qSend_full _ p c 1 4 _ hP5 _ 1 1 [8] hr5 (by omega) (by omega) (by omega) (by simp)).mono ?_
  rintro _ w5 ⟨rfl, hP6, hk6⟩
  have hk7 := ((Keep.refl [] w3).alloc (.cells #[.int .u64 8] 44)).trans hk6
  have H6 := Lib.hid (And.intro hP6 (And.intro (owns_keep H3.out.2.1 hk7 (by simp)) (H3.out.2.2.trans hk7)))
  clear hP5 hr5 hP6 hk6 hk7 H3
  go_wp2_with fail
  refine (qTake_yes w5 p c 1 4 v' [] H6.out.1).mono ?_
  rintro _ w7 ⟨rfl, hP8, hk8⟩
  have hlc : c < (w1.alloc (.cells #[.int .u64 7] 44)).heap.size := by have := H1.out.1.lt; simp; omega
  have ho8 := owns_keep H6.out.2.1 hk8 (fun b hb => by have h1 := ownBlock_ge H6.out.2.1 hb; simp at h1 hlc ⊢; omega)
  have hk9 := H6.out.2.2.andThen hk8 (by intro x hx; right; simp at hx; have := H1.out.2.2.2.2; omega)
  have H8 := Lib.hid (And.intro hP8 (And.intro ho8 hk9))
  clear hP8 hk8 ho8 hk9 H6
  go_wp2_with fail
  refine (qTake_no w7 p c 1 4 H8.out.1).mono ?_
  rintro _ w8 ⟨rfl, rfl⟩
  obtain ⟨g, cap, rfl, hg1, hg2, hg3, hg4⟩ := owns_pos H8.out.2.1 (by omega)
  have c0 := (hg4 0 _ rfl).1
  have HK := Lib.hid H8.out.2.2
  clear hg1 hg2 hg4 H8 H1
  go_wp2
  go_ret
  exact ⟨rfl, HK.out⟩
end Go.Proofs.Ytjiienoflgolpaa
