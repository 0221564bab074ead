import Derived.Test.YtehmjjfgefopdaaWe
namespace Go.Proofs.Ytehmjjfgefopdaa
open Go.RowKit
set_option linter.unusedSimpArgs false
set_option linter.unusedVariables false
attribute [local go_sem] ob_alloc ob_drew ob_drewN ob_setCell ob_setBlock objSet_cells obMap_map obClock_map isMapI_map keyI_mk findI_nil findI_cons lookRes_some lookRes_none lookRes_some' lookRes_none' setBlock_alloc mapPut

/-! ### sorted rows: the search, the deletion -/
def cnt (x : Nat) (xs : List Nat) : Nat := xs.countP (· < x)
theorem cnt_cons (x a : Nat) (xs : List Nat) : cnt x (a :: xs) = (if a < x then 1 else 0) + cnt x xs := by
  unfold cnt
  rw [List.countP_cons]
  by_cases h : a < x <;> simp [h]; omega
theorem cnt_zero {x : Nat} : ∀ {xs : List Nat}, (∀ y ∈ xs, x ≤ y) → cnt x xs = 0
  | [], _ => rfl
  | a :: xs, h => by
    rw [cnt_cons, cnt_zero (fun y hy => h y (by simp [hy])), if_neg (by have := h a (by simp); omega)]
theorem insAt_ins {x : Nat} : ∀ {xs : List Nat}, xs.Pairwise (· < ·) → insAt xs (cnt x xs) x = ins x xs
  | [], _ => rfl
  | a :: xs, h => by
    obtain ⟨h1, h2⟩ := List.pairwise_cons.1 h
    rw [cnt_cons]
    by_cases hl : a < x
    · rw [if_pos hl, Nat.add_comm 1]
      have ih := insAt_ins (x := x) h2
      unfold insAt ins at *
      simp only [List.take_succ_cons, List.drop_succ_cons, List.cons_append, List.takeWhile_cons, List.dropWhile_cons, decide_eq_true_eq, hl, if_true]
      rw [ih]
    · rw [if_neg hl, cnt_zero (fun y hy => by have := h1 y hy; omega)]
      simp [insAt, ins, hl]
theorem cnt_le (x : Nat) (xs : List Nat) : cnt x xs ≤ xs.length := List.countP_le_length
theorem erase_cnt {x : Nat} : ∀ {xs : List Nat}, xs.Pairwise (· < ·) → x ∈ xs → cnt x xs < xs.length ∧ xs.eraseIdx (cnt x xs) = xs.erase x
  | [], _, h => by cases h
  | a :: xs, h, hx => by
    obtain ⟨h1, h2⟩ := List.pairwise_cons.1 h
    rw [cnt_cons]
    by_cases e : a = x
    · subst e
      rw [if_neg (by omega), cnt_zero (fun y hy => by have := h1 y hy; omega)]
      simp
    · have hm := (List.mem_cons.1 hx).resolve_left (fun e2 => e e2.symm)
      have := h1 x hm
      obtain ⟨i1, i2⟩ := erase_cnt h2 hm
      rw [if_pos this, Nat.add_comm 1, List.eraseIdx_cons_succ, i2, List.erase_cons_tail (by simpa using e)]
      exact ⟨by simp; omega, rfl⟩
def nI (xs : List Nat) : List Int := xs.map fun (x : Nat) => (x : Int)
theorem nI_len (xs : List Nat) : (nI xs).length = xs.length := List.length_map ..
theorem nI_cnt (x : Nat) (xs : List Nat) : (nI xs).countP (· < (x : Int)) = cnt x xs := by
  unfold nI cnt
  rw [List.countP_map]
  congr 1
  funext y
  simp
theorem nI_mem (x : Nat) (xs : List Nat) : (nI xs).contains (x : Int) = decide (x ∈ xs) := by
  rw [Bool.eq_iff_iff]
  simp only [List.contains_iff_mem, nI, List.mem_map, decide_eq_true_eq]
  constructor
  · rintro ⟨a, h1, h2⟩
    rw [show x = a by omega]; exact h1
  · intro h; exact ⟨x, h, rfl⟩
theorem nI_get {xs : List Nat} {j : Nat} (hj : j < xs.length) : (nI xs).getD j 0 = (xs[j] : Nat) := by
  simp [nI, List.getD_eq_getElem?_getD, hj]
theorem nI_cell {w : World} {g cap : Nat} {xs : List Nat} (h : LAt w g cap xs) : ∀ j, j < (nI xs).length → w.cell? ⟨g, 0 + j, none⟩ = some (.int .i64 ((nI xs).getD j 0)) := fun j hj => by
  rw [nI_len] at hj
  rw [Nat.zero_add, h.cell (List.getElem?_eq_getElem hj), nI_get hj]
  rfl
theorem nI_map (xs : List Nat) : (nI xs).map (Value.int .i64) = isV xs := by
  simp [nI, isV, vN]
theorem lSearch (w : World) (v : Value) (xs : List Nat) (h : LRow w v xs) (hs : xs.Pairwise (· < ·)) (hn : xs.length ≤ 1000) (x : Nat) :
    Calls Try.prog 33 #[v, .int .i64 (x : Int)] w fun o w' => o = .returned (.tuple #[.int .i64 (cnt x xs : Nat), .bool (decide (x ∈ xs))]) ∧ ∃ q, w' = w.drewN q := by
  rcases h with ⟨rfl, rfl⟩ | ⟨g, cap, rfl, h⟩
  · refine (Try.slices_BinarySearch_int_empty none 0 x w).mono ?_
    rintro _ w' ⟨rfl, rfl⟩
    exact ⟨by simp [cnt], 0, rfl⟩
  · have hc : xs.length ≤ maxLen := by obtain ⟨f, _, h2, h3, _⟩ := h; omega
    have hL := nI_len xs
    have hbig : xs.length < 4611686018427387904 := by omega
    · have hsP : ((nI xs).take xs.length).Pairwise (· ≤ ·) := by
        rw [List.take_of_length_le (by omega)]
        unfold nI
        rw [List.pairwise_map]
        exact hs.imp (fun {a b} hab => by omega)
      refine (Try.slices_BinarySearch_int g 0 xs.length cap (nI xs) x w (by omega) hbig (nI_cell h) hsP).mono ?_
      rintro _ w' ⟨rfl, hq⟩
      refine ⟨?_, hq⟩
      rw [List.take_of_length_le (by omega), nI_cnt, nI_mem]
theorem lDelete (w : World) (v : Value) (xs : List Nat) (h : LRow w v xs) (i : Nat) (hi : i < xs.length) :
    Calls Try.prog 47 #[v, .int .i64 (i : Int), .int .i64 ((i : Int) + 1)] w fun o w' => ∃ va vc, o = .returned (.slice va (xs.length - 1) vc) ∧ LRow w' (.slice va (xs.length - 1) vc) (xs.eraseIdx i) ∧ Keep v.ownBlock.toList w w' ∧ (Value.slice va (xs.length - 1) vc).ownBlock = v.ownBlock := by
  rcases h with ⟨rfl, rfl⟩ | ⟨g, cap, rfl, h⟩
  · simp at hi
  · obtain ⟨f, hg, hlen, hcap, hf⟩ := h
    have hL := nI_len xs
    refine (Try.slices_Delete_int_cells g 0 xs.length cap i (i + 1) (nI xs) w (by omega) hlen hcap (by omega) hi (nI_cell ⟨f, hg, hlen, hcap, hf⟩) (fun j _ => free_of_ob hg _)).mono ?_
    rintro _ w' ⟨rfl, q, rfl⟩
    rw [List.take_of_length_le (show (nI xs).length ≤ xs.length by omega)]
    have he : ((nI xs).take i ++ (nI xs).drop (i + 1) ++ List.replicate (i + 1 - i) (0 : Int)).map (Value.int .i64) = isV (xs.eraseIdx i) ++ [.int .i64 0] := by
      rw [show i + 1 - i = 1 by omega, ← List.eraseIdx_eq_take_drop_succ, List.map_append, map_eraseIdx, nI_map, isV, isV, map_eraseIdx]
      rfl
    rw [he, show i + 1 - i = 1 by omega]
    have ho := blk_storeR (isV (xs.eraseIdx i) ++ [.int .i64 0]) 0 (w.drewN q) _ hg
    have hl2 : (xs.eraseIdx i).length = xs.length - 1 := List.length_eraseIdx_of_lt hi
    refine ⟨_, _, rfl, .inr ⟨g, cap, by rw [hl2], _, ho, by omega, hcap, fun j y hj => ?_⟩, ((Keep.refl _ w).drewN q).setCells (.inl (by simp [Value.ownBlock])) _ _, rfl⟩
    have hj2 := (List.getElem?_eq_some_iff.1 hj).1
    unfold updR
    rw [if_pos (by simp [isV_len]; omega), List.getD_eq_getElem?_getD, Nat.sub_zero, List.getElem?_append_left (by rw [isV_len]; exact hj2), isV, List.getElem?_map, hj]
    rfl
end Go.Proofs.Ytehmjjfgefopdaa
