import Derived.Test.YtehmjjfgefopdaaShelf
import Derived.Test.YtehmjjfgefopdaaWc
import Derived.Test.YtehmjjfgefopdaaKa
import Derived.Maps.AppendAt
namespace Go.Proofs.Ytehmjjfgefopdaa
open Go.RowKit
set_option linter.unusedSimpArgs false
set_option linter.unusedVariables false
attribute [local go_sem] ob_alloc ob_drew ob_drewN ob_setCell ob_setBlock objSet_cells obMap_map obClock_map isMapI_map keyI_mk findI_nil findI_cons lookRes_some lookRes_none lookRes_some' lookRes_none' setBlock_alloc mapPut

/-! ### slices of numbers, of the walk's own -/
def vN (x : Nat) : Value := .int .i64 (x : Int)
def isV (xs : List Nat) : List Value := xs.map vN
theorem isV_len (xs : List Nat) : (isV xs).length = xs.length := List.length_map ..
theorem isV_one (xs : List Nat) : ∀ v ∈ isV xs, v.oneCell' = true := by
  intro v hv
  simp only [isV, List.mem_map] at hv
  obtain ⟨x, _, rfl⟩ := hv
  rfl
theorem isV_get {xs : List Nat} {j : Nat} {v : Value} (h : (isV xs)[j]? = some v) : ∃ x, xs[j]? = some x ∧ v = vN x := by
  simp only [isV, List.getElem?_map, Option.map_eq_some_iff] at h
  obtain ⟨x, h1, h2⟩ := h
  exact ⟨x, h1, h2.symm⟩
def LAt (w : World) (g cap : Nat) (xs : List Nat) : Prop :=
  ∃ f, ob w g = some (.cells (blk f cap) 3 (0, 0)) ∧ xs.length ≤ cap ∧ cap ≤ maxLen ∧ ∀ j x, xs[j]? = some x → f j = vN x
def LRow (w : World) (v : Value) (xs : List Nat) : Prop :=
  (v = .slice none 0 0 ∧ xs = []) ∨ ∃ g cap, v = .slice (some ⟨g, 0, none⟩) xs.length cap ∧ LAt w g cap xs
theorem LAt.cell {w : World} {g cap : Nat} {xs : List Nat} (h : LAt w g cap xs) {j x : Nat} (hj : xs[j]? = some x) : w.cell? ⟨g, j, none⟩ = some (vN x) := by
  obtain ⟨f, h1, h2, _, h4⟩ := h
  have := (List.getElem?_eq_some_iff.1 hj).1
  rw [blk_cell h1 (by omega), h4 j x hj]
theorem LAt.keep {S : List Nat} {w w' : World} {g cap : Nat} {xs : List Nat} (h : LAt w g cap xs) (hk : Keep S w w') (hg : g ∉ S) : LAt w' g cap xs := by
  obtain ⟨f, h1, h2⟩ := h
  exact ⟨f, hk.kp h1 hg, h2⟩
theorem LAt.lt {w : World} {g cap : Nat} {xs : List Nat} (h : LAt w g cap xs) : g < w.heap.size := by
  obtain ⟨f, h1, h2⟩ := h
  exact ob_lt h1
theorem LRow.keep {S : List Nat} {w w' : World} {v : Value} {xs : List Nat} (h : LRow w v xs) (hk : Keep S w w') (hS : ∀ b, v.ownBlock = some b → b ∉ S) : LRow w' v xs := by
  rcases h with h | ⟨g, cap, rfl, h⟩
  · exact .inl h
  · exact .inr ⟨g, cap, rfl, h.keep hk (hS g rfl)⟩
theorem LRow.lt {w : World} {v : Value} {xs : List Nat} (h : LRow w v xs) {b : Nat} (hb : v.ownBlock = some b) : b < w.heap.size := by
  rcases h with ⟨rfl, _⟩ | ⟨g, cap, rfl, h⟩
  · cases hb
  · cases hb; exact h.lt
theorem LRow.slice {w : World} {v : Value} {xs : List Nat} (h : LRow w v xs) : ∃ a c, v = .slice a xs.length c := by
  rcases h with ⟨rfl, rfl⟩ | ⟨g, cap, rfl, h⟩
  · exact ⟨none, 0, rfl⟩
  · exact ⟨_, _, rfl⟩
/-- a new row out of an array -/
theorem LAt.ofArr {w : World} {g : Nat} {cur : Array Value} (h : ob w g = some (.cells cur 3 (0, 0))) {xs : List Nat} (hx : ∀ (j x : Nat), xs[j]? = some x → cur[j]? = some (vN x)) (hl : xs.length ≤ cur.size) (hm : cur.size ≤ maxLen) : LAt w g cur.size xs := by
  refine ⟨_, (by rw [← blk_of_array]; exact h), hl, hm, fun j x hj => ?_⟩
  rw [Array.getD_eq_getD_getElem?, hx j x hj]; rfl
def insAt (xs : List Nat) (i x : Nat) : List Nat := xs.take i ++ x :: xs.drop i
theorem insAt_len (xs : List Nat) (i x : Nat) : (insAt xs i x).length = xs.length + 1 := by simp [insAt]; omega
theorem insAt_get {xs : List Nat} {i x j : Nat} (hi : i ≤ xs.length) : (insAt xs i x)[j]? = if j < i then xs[j]? else if j = i then some x else xs[j - 1]? := by
  unfold insAt
  have hl : (xs.take i).length = i := by simp; omega
  by_cases h : j < i
  · rw [if_pos h, List.getElem?_append_left (by omega), List.getElem?_take, if_pos h]
  · rw [if_neg h, List.getElem?_append_right (by omega), hl]
    by_cases h2 : j = i
    · subst h2; simp
    · rw [if_neg h2, show j - i = (j - i - 1) + 1 by omega, List.getElem?_cons_succ, List.getElem?_drop]
      congr 1; omega
def InsP (w : World) (v : Value) (xs : List Nat) (i x : Nat) : Ending → World → Prop := fun o w' =>
  ∃ va vc, o = .returned (.slice va (xs.length + 1) vc) ∧ LRow w' (.slice va (xs.length + 1) vc) (insAt xs i x) ∧ Keep v.ownBlock.toList w w' ∧ ∃ b, (Value.slice va (xs.length + 1) vc).ownBlock = some b ∧ (v.ownBlock = some b ∨ w.heap.size ≤ b)
theorem shape_ob {w : World} {b : Nat} {c : Array Value} {e : TypeId} {f : Nat × Nat} (h : ob w b = some (.cells c e f)) : w.shape? b = some (e, c.size) := by
  unfold ob at h
  simp [World.shape?, h]
theorem zc_size (n : Nat) : (Builtin.zeroCells (Value.int .i64 0).cells n).size = n := by simp [Builtin.zeroCells, Value.cells]
theorem pInsert (w : World) (v : Value) (xs : List Nat) (h : LRow w v xs) (i x : Nat) (hi : i ≤ xs.length) (hn : xs.length ≤ 1000) (vb : Nat) (hb : ob w vb = some (.cells #[vN x] 3 (0, 0))) (hv : v.ownBlock ≠ some vb) :
    Calls Try.prog 34 #[v, .int .i64 (i : Int), .slice (some ⟨vb, 0, none⟩) 1 1] w (InsP w v xs i x) := by
  have hvs : ∀ (j : Nat) (u : Value), [vN x][j]? = some u → w.cell? ⟨vb, 0 + j, none⟩ = some u := fun j u hj => by
    rw [cell_of_ob hb, Nat.zero_add]; simpa using hj
  have h1v : ∀ u ∈ [vN x], u.oneCell' = true := by simp [vN, Value.oneCell']
  have hL := insAt_len xs i x
  -- what a new row holds
  rcases h with ⟨rfl, rfl⟩ | ⟨g, cap, rfl, f, hg, hlen, hcap, hf⟩
  · obtain rfl : i = 0 := by simpa using hi
    refine (Try.slices_Insert_int_end_grow none 0 0 vb 0 1 1 [] [vN x] w (by omega) (by omega) (by omega) (by omega) rfl rfl (fun _ => rfl) (fun a ha => by cases ha) hvs h1v).mono ?_
    rintro _ w' ⟨rfl, rfl⟩
    have hge := grownCap_ge w (0 + 1) 0 3
    have hle := grownCap_le_maxLen w (0 + 1) 0 3 (by unfold maxLen; omega)
    have ho := al_new w.drew (.cells (([] ++ [vN x]).toArray ++ Builtin.zeroCells (Value.int .i64 0).cells (grownCap w (0 + 1) 0 3 - (0 + 1))) 3) rfl
    have hs : (([] ++ [vN x]).toArray ++ Builtin.zeroCells (Value.int .i64 0).cells (grownCap w (0 + 1) 0 3 - (0 + 1))).size = grownCap w (0 + 1) 0 3 := by
      have hge' : 1 ≤ grownCap w 1 0 3 := hge
      rw [Array.size_append, zc_size]; simp; omega
    have hL2 : (insAt [] 0 x).length = 0 + 1 := hL
    refine ⟨_, _, rfl, .inr ⟨w.heap.size, _, by rw [hL], ?_⟩, (Keep.refl _ w).drew.alloc _, w.heap.size, rfl, .inr (Nat.le_refl _)⟩
    have hA := LAt.ofArr (xs := insAt [] 0 x) ho (fun j y hj => ?_) (by rw [hs, hL2]; exact hge) (by rw [hs]; exact hle)
    · rw [hs] at hA; exact hA
    rw [insAt_get (by simp)] at hj
    by_cases h0 : j = 0
    · subst h0
      simp at hj ⊢
      rw [hj, Array.getElem?_append_left (by simp)]
      rfl
    · rw [if_neg (by omega), if_neg h0] at hj; simp at hj
  · have hc63 : cap ≤ 9223372036854775807 := hcap
    have hcs : ∀ (j : Nat) (u : Value), (isV xs)[j]? = some u → w.cell? ⟨g, 0 + j, none⟩ = some u := fun j u hj => by
      obtain ⟨y, h1, rfl⟩ := isV_get hj
      have := (List.getElem?_eq_some_iff.1 h1).1
      rw [Nat.zero_add, blk_cell hg (by omega), hf j y h1]
    have hne : vb ≠ g := fun e => hv (by rw [e]; rfl)
    have hfr := fun k => free_of_ob hg k
    have hsome : ∀ k, k < cap → (w.cell? ⟨g, k, none⟩).isSome = true := fun k hk => by rw [blk_cell hg hk]; rfl
    by_cases hroom : xs.length + 1 ≤ cap
    · by_cases hlt : i < xs.length
      · refine (Try.slices_Insert_int_shift g 0 xs.length cap i vb 0 1 1 (isV xs) [vN x] w hlt (by omega) hroom hc63 hne (isV_len _) rfl hcs (fun j hj => by rw [Nat.zero_add]; exact hsome j (by omega)) (fun j hj => by rw [Nat.zero_add]; exact hfr j) hvs (isV_one _) h1v _ _ _ _ (shape_ob hb) (shape_ob hg) (by rw [blk_size]; omega) (free_of_ob hb _) (free_of_ob hb _)).mono ?_
        rintro _ w' ⟨rfl, rfl⟩
        have ho := blk_storeR ([vN x]) (0 + i) _ _ (blk_storeR ((isV xs).drop i) (0 + (i + 1)) _ _ (show ob w.drew g = _ from hg))
        refine ⟨_, _, rfl, .inr ⟨g, cap, by rw [hL], _, ho, by rw [hL]; exact hroom, hcap, fun j y hj => ?_⟩, ((Keep.refl _ w).drew.setCells (.inl (by simp [Value.ownBlock])) _ _).setCells (.inl (by simp [Value.ownBlock])) _ _, g, rfl, .inl rfl⟩
        rw [insAt_get hi] at hj
        unfold updR
        by_cases h1 : j < i
        · rw [if_pos h1] at hj
          rw [if_neg (by omega), if_neg (by omega)]
          exact hf j y hj
        · rw [if_neg h1] at hj
          by_cases h2 : j = i
          · rw [if_pos h2] at hj
            cases hj
            rw [if_pos (by simp; omega)]
            simp [h2]
          · rw [if_neg h2] at hj
            have hj2 := (List.getElem?_eq_some_iff.1 hj).1
            rw [if_neg (by simp; omega), if_pos (by rw [List.length_drop, isV_len]; omega)]
            rw [List.getD_eq_getElem?_getD, List.getElem?_drop, isV, List.getElem?_map, show i + (j - (0 + (i + 1))) = j - 1 by omega, hj]
            rfl
      · obtain rfl : i = xs.length := by omega
        refine (Try.slices_Insert_int_end_room g 0 xs.length cap vb 0 1 1 [vN x] w (by omega) hroom hc63 rfl (fun j hj => by rw [Nat.zero_add]; exact hsome _ (by omega)) (fun j hj => by rw [Nat.zero_add]; exact hfr _) hvs h1v).mono ?_
        rintro _ w' ⟨rfl, rfl⟩
        have ho := blk_storeR ([vN x]) (0 + xs.length) _ _ hg
        refine ⟨_, _, rfl, .inr ⟨g, cap, by rw [hL], _, ho, by rw [hL]; exact hroom, hcap, fun j y hj => ?_⟩, (Keep.refl _ w).setCells (.inl (by simp [Value.ownBlock])) _ _, g, rfl, .inl rfl⟩
        rw [insAt_get hi] at hj
        unfold updR
        by_cases h1 : j < xs.length
        · rw [if_pos h1] at hj
          rw [if_neg (by omega)]
          exact hf j y hj
        · rw [if_neg h1] at hj
          by_cases h2 : j = xs.length
          · rw [if_pos h2] at hj
            cases hj
            rw [if_pos (by simp; omega)]
            simp [h2]
          · rw [if_neg h2] at hj
            have hj2 := (List.getElem?_eq_some_iff.1 hj).1
            omega
    · have hbig : (xs.length + 1) * 8 ≤ 140737488355328 := by omega
      have hge := grownCap_ge w (xs.length + 1) cap 3
      have hle := grownCap_le_maxLen w (xs.length + 1) cap 3 (by unfold maxLen; omega)
      by_cases hlt : i < xs.length
      · refine (Try.slices_Insert_int_grow g 0 xs.length cap i vb 0 1 1 (isV xs) [vN x] w hlt (by omega) hlen (by omega) hbig (isV_len _) rfl hcs hvs (isV_one _) h1v).mono ?_
        rintro _ w' ⟨rfl, rfl⟩
        have hs : (((isV xs).take i).toArray ++ Builtin.zeroCells (Value.int .i64 0).cells (xs.length + 1 - i) ++ Builtin.zeroCells (Value.int .i64 0).cells (grownCap w (xs.length + 1) cap 3 - (xs.length + 1))).size = grownCap w (xs.length + 1) cap 3 := by
          rw [Array.size_append, Array.size_append, zc_size, zc_size]; simp [isV_len]; omega
        have hget : ∀ j y, j < i → xs[j]? = some y → (((isV xs).take i).toArray ++ Builtin.zeroCells (Value.int .i64 0).cells (xs.length + 1 - i) ++ Builtin.zeroCells (Value.int .i64 0).cells (grownCap w (xs.length + 1) cap 3 - (xs.length + 1)))[j]? = some (vN y) := fun j y h1 h2 => by
          have hl : ((isV xs).take i).length = i := by simp [isV_len]; omega
          rw [Array.append_assoc, Array.getElem?_append_left (by simpa [hl] using h1), List.getElem?_toArray, List.getElem?_take, if_pos h1, isV, List.getElem?_map, h2]
          rfl
        generalize (((isV xs).take i).toArray ++ Builtin.zeroCells (Value.int .i64 0).cells (xs.length + 1 - i) ++ Builtin.zeroCells (Value.int .i64 0).cells (grownCap w (xs.length + 1) cap 3 - (xs.length + 1))) = cur at *
        have ho0 := al_new w (.cells cur 3) rfl
        have ho1 : ob (w.alloc (.cells cur 3)).drew w.heap.size = some (.cells (blk (fun k => cur.getD k undef) cur.size) 3 (0, 0)) := by
          rw [← blk_of_array]; exact ho0
        have ho := blk_storeR ((isV xs).drop i) (i + 1) _ _ (show ob (((w.alloc (.cells cur 3)).drew.setCells w.heap.size i [vN x]).drew) w.heap.size = _ from blk_storeR ([vN x]) i _ _ ho1)
        rw [hs] at ho
        refine ⟨_, _, rfl, .inr ⟨w.heap.size, _, by rw [hL], _, ho, by rw [hL]; exact hge, hle, fun j y hj => ?_⟩, ((((Keep.refl _ w).alloc _).drew.setCells (.inr (Nat.le_refl _)) _ _).drew).setCells (.inr (Nat.le_refl _)) _ _, w.heap.size, rfl, .inr (Nat.le_refl _)⟩
        rw [insAt_get hi] at hj
        unfold updR
        by_cases h1 : j < i
        · rw [if_pos h1] at hj
          rw [if_neg (by omega), if_neg (by omega)]
          show cur.getD j undef = _
          rw [Array.getD_eq_getD_getElem?, hget j y h1 hj]
          rfl
        · rw [if_neg h1] at hj
          by_cases h2 : j = i
          · rw [if_pos h2] at hj
            cases hj
            rw [if_neg (by omega), if_pos (by simp; omega)]
            simp [h2]
          · rw [if_neg h2] at hj
            have hj2 := (List.getElem?_eq_some_iff.1 hj).1
            rw [if_pos (by rw [List.length_drop, isV_len]; omega)]
            rw [List.getD_eq_getElem?_getD, List.getElem?_drop, isV, List.getElem?_map, show i + (j - (i + 1)) = j - 1 by omega, hj]
            rfl
      · obtain rfl : i = xs.length := by omega
        refine (Try.slices_Insert_int_end_grow (some ⟨g, 0, none⟩) xs.length cap vb 0 1 1 (isV xs) [vN x] w (by omega) hlen (by omega) hbig (isV_len _) rfl (fun e => by cases e) (fun a ha j u hj => by cases ha; rw [add_mk]; exact hcs j u hj) hvs h1v).mono ?_
        rintro _ w' ⟨rfl, rfl⟩
        have hs : ((isV xs ++ [vN x]).toArray ++ Builtin.zeroCells (Value.int .i64 0).cells (grownCap w (xs.length + 1) cap 3 - (xs.length + 1))).size = grownCap w (xs.length + 1) cap 3 := by
          rw [Array.size_append, zc_size]; simp [isV_len]; omega
        have ho := al_new w.drew (.cells ((isV xs ++ [vN x]).toArray ++ Builtin.zeroCells (Value.int .i64 0).cells (grownCap w (xs.length + 1) cap 3 - (xs.length + 1))) 3) rfl
        refine ⟨_, _, rfl, .inr ⟨w.heap.size, _, by rw [hL], ?_⟩, (Keep.refl _ w).drew.alloc _, w.heap.size, rfl, .inr (Nat.le_refl _)⟩
        have hA := LAt.ofArr (xs := insAt xs xs.length x) ho (fun j y hj => ?_) (by rw [hs, hL]; exact hge) (by rw [hs]; exact hle)
        · rw [hs] at hA; exact hA
        · rw [insAt_get hi] at hj
          by_cases h1 : j < xs.length
          · rw [if_pos h1] at hj
            rw [Array.getElem?_append_left (by simp [isV_len]; omega), List.getElem?_toArray, List.getElem?_append_left (by rw [isV_len]; exact h1), isV, List.getElem?_map, hj]
            rfl
          · rw [if_neg h1] at hj
            by_cases h2 : j = xs.length
            · rw [if_pos h2] at hj
              cases hj
              rw [Array.getElem?_append_left (by simp [isV_len]; omega), List.getElem?_toArray, List.getElem?_append_right (by rw [isV_len]; omega), isV_len, h2]
              simp
            · rw [if_neg h2] at hj
              have hj2 := (List.getElem?_eq_some_iff.1 hj).1
              omega
end Go.Proofs.Ytehmjjfgefopdaa
