import Derived.Test.YtajlpicdkdeceaaDoorHk
namespace Go.Proofs.YtajlpicdkdeceaaDoor
open Go.RowKit
set_option linter.unusedSimpArgs false
set_option linter.unusedVariables false
attribute [local go_sem] ob_alloc ob_drew ob_drewN ob_setCell ob_setBlock objSet_cells obMap_map obClock_map isMapI_map keyI_mk findI_nil findI_cons lookRes_some lookRes_none lookRes_some' lookRes_none' setBlock_alloc mapPut
open Go.Lib

/-! ### the reference cuts a text -/
def SP (l : List UInt8) (N k fr : Nat) (xs : List (List UInt8)) : Prop :=
  (k ≤ N → fr ≤ k ∧ (∀ j, fr ≤ j → j < k → l[j]? ≠ some 32) ∧ spl l = xs ++ spl (l.drop fr)) ∧ (N < k → spl l = xs)
theorem sp_start (l : List UInt8) (N : Nat) : SP l N 0 0 [] := ⟨fun _ => ⟨Nat.le_refl _, fun j _ h => by omega, by simp⟩, fun h => by omega⟩
theorem no32 {l : List UInt8} {fr k : Nat} (h : ∀ j, fr ≤ j → j < k → l[j]? ≠ some 32) : ∀ c ∈ (l.drop fr).take (k - fr), c ≠ 32 := by
  intro c hc e
  subst e
  obtain ⟨q, hq⟩ := List.getElem?_of_mem hc
  rw [List.getElem?_take] at hq
  split at hq
  · rename_i hlt
    rw [List.getElem?_drop] at hq
    exact h (fr + q) (by omega) (by omega) hq
  · cases hq
theorem sp_cut {l : List UInt8} {N k fr : Nat} {xs : List (List UInt8)} (h : SP l N k fr xs) (hN : l.length = N) (hk : k < N) (h32 : l[k]? = some 32) : SP l N (k + 1) (k + 1) (xs ++ [(l.drop fr).take (k - fr)]) := by
  obtain ⟨h1, h2, h3⟩ := h.1 (by omega)
  refine ⟨fun _ => ⟨Nat.le_refl _, fun j a b => by omega, ?_⟩, fun h => by omega⟩
  have e : l.drop fr = (l.drop fr).take (k - fr) ++ 32 :: l.drop (k + 1) := by
    conv => lhs; rw [← List.take_append_drop (k - fr) (l.drop fr), List.drop_drop, show fr + (k - fr) = k by omega]
    obtain ⟨hl, he⟩ := List.getElem?_eq_some_iff.1 h32
    rw [List.drop_eq_getElem_cons hl, he]
  rw [h3, e, spl_cut _ (no32 h2), ← e]
  simp
theorem sp_skip {l : List UInt8} {N k fr : Nat} {xs : List (List UInt8)} (h : SP l N k fr xs) (hk : k < N) (h32 : l[k]? ≠ some 32) : SP l N (k + 1) fr xs := by
  obtain ⟨h1, h2, h3⟩ := h.1 (by omega)
  refine ⟨fun _ => ⟨by omega, fun j a b => ?_, h3⟩, fun h => by omega⟩
  by_cases e : j = k
  · rw [e]; exact h32
  · exact h2 j a (by omega)
theorem sp_end {l : List UInt8} {N fr : Nat} {xs : List (List UInt8)} (h : SP l N N fr xs) (hN : l.length = N) : SP l N (N + 1) (N + 1) (xs ++ [(l.drop fr).take (N - fr)]) := by
  obtain ⟨h1, h2, h3⟩ := h.1 (by omega)
  refine ⟨fun h => by omega, fun _ => ?_⟩
  have hn := no32 h2
  have e : (l.drop fr).take (N - fr) = l.drop fr := List.take_of_length_le (by rw [List.length_drop]; omega)
  rw [e] at hn ⊢
  rw [h3, spl_none hn]
/-! ### the reference's row of parts -/
structure SW (w0 w : World) (rb : Nat) (v : Value) (xs : List ByteArray) : Prop where
  row : RowE strE 9 w w0.heap.size v xs
  orb : ob w rb = some (.cells (blk (vI fun _ => 0) 5) 23 (0, 0))
  kp : Keep [] w0 w
section
variable {w0 w w' : World} {rb : Nat} {v : Value} {xs : List ByteArray}
theorem SW.new (h : SW w0 w rb v xs) (hk : Keep [] w w') : SW w0 w' rb v xs := ⟨h.row.keep hk (by simp), hk.kp h.orb (by simp), h.kp.trans hk⟩
theorem SW.push (h : SW w0 w rb v xs) (x : ByteArray) (hl : xs.length ≤ 3000) :
    ∃ va vc w2, (∀ ty, (Builtin.append_ #[43, 43] ty #[v, .slice (some ⟨w.heap.size, 0, none⟩) 1 1]).run Tryd.prog (w.alloc (.cells #[.string x] 9)) = .ok (.slice va (xs.length + 1) vc) w2) ∧ SW w0 w2 rb (.slice va (xs.length + 1) vc) (xs ++ [x]) := by
  have kA : Keep [] w (w.alloc (.cells #[.string x] 9)) := (Keep.refl _ _).alloc _
  have hsz := h.kp.size
  obtain ⟨va, vc, w2, g1, g2, g3, g4⟩ := (h.row.keep kA (by simp)).push (P := Tryd.prog) Tryd.underlying43 info9 rfl (by omega) x (al_new w (.cells #[.string x] 9) rfl) 1 (by omega) (by omega) (by simp; omega)
  have k2 : Keep v.ownBlock.toList w w2 := (kA.mono (by simp)).trans g3
  refine ⟨va, vc, w2, g1, g2, k2.kp h.orb (fun hm => ?_), h.kp.andThen k2 (fun b hb => by simp only [Option.mem_toList] at hb; exact .inr (ownBlock_ge h.row hb))⟩
  simp only [Option.mem_toList] at hm
  obtain ⟨cs, ho⟩ := row_ob h.row hm
  rw [h.orb] at ho
  simp at ho
theorem SW.cells (h : SW w0 w rb v xs) (hne : xs ≠ []) : ∃ g cap, v = .slice (some ⟨g, 0, none⟩) xs.length cap ∧ g < w.heap.size ∧ ∀ (j : Nat) x, xs[j]? = some x → w.cell? ⟨g, j, none⟩ = some (.string x) := by
  have hl : 0 < xs.length := List.length_pos_iff.2 hne
  obtain ⟨g, cap, hv, _, hg, hc, _, _⟩ := h.row.get (i := 0) (List.getElem?_eq_getElem hl)
  refine ⟨g, cap, hv, hg, fun j x hj => ?_⟩
  obtain ⟨g', cap', hv', _, _, _, _, hX⟩ := h.row.get hj
  rw [hv] at hv'
  simp only [Value.slice.injEq, Option.some.injEq, Addr.mk.injEq, and_true, true_and] at hv'
  obtain ⟨rfl, rfl⟩ := hv'
  have := hX 0 _ rfl
  rw [Nat.mul_one, Nat.add_zero] at this
  exact this
theorem SW.put (h : SW w0 w rb v xs) {pb : Nat} {f : Nat → Value} (hp : ob w pb = some (.cells (blk f 4) 51 (0, 0))) (hn : w0.heap.size ≤ pb) (j : Nat) (x : Value) : SW w0 (w.setCell ⟨pb, j, none⟩ x) rb v xs := by
  have hK : Keep [pb] w (w.setCell ⟨pb, j, none⟩ x) := (Keep.refl _ _).setCell (.inl (by simp)) _ _
  refine ⟨h.row.keep hK (fun b hb hm => ?_), hK.kp h.orb (fun hm => ?_), h.kp.andThen hK (by intro y hy; simp at hy; subst hy; exact .inr hn)⟩
  · simp at hm
    subst hm
    obtain ⟨cs, ho⟩ := row_ob h.row hb
    rw [hp] at ho
    simp at ho
  · simp at hm
    have := h.orb
    rw [hm, hp] at this
    simp at this
end
theorem ps_cnt : ∀ o : Fin 12, ∀ k : Fin 4, named o.val (k.val + 1) = true → (PS o.val)[((List.range (k.val + 1)).filter (named o.val)).length]? = some (k.val + 1) := by decide
theorem cnt_lt (o k : Nat) (ho : o < 12) (hk : k < 4) (h : named o (k + 1) = true) : (PS o)[((List.range (k + 1)).filter (named o)).length]? = some (k + 1) := ps_cnt ⟨o, ho⟩ ⟨k, hk⟩ h
/-- what the reference's number is, of a text -/
theorem num_read {s : List UInt8} {l : List UInt8} {lt : List (List UInt8)} (hspl : spl s = l :: lt) {o : Nat} (ho : o < 12) (hoe : wd o = l) {i : IN} (hi : right i = true) (ht : text i = s) {k at' : Nat} (hk : k < 4)
    (hn : named o (k + 1) = true) (hat : at' = 1 + ((List.range (k + 1)).filter (named o)).length) {lx : List UInt8} (hlx : (spl s)[at']? = some lx) : numF 0 (if k < 3 then lx.drop 1 else lx) = i.f (k + 1) := by
  obtain ⟨h1, h2⟩ := op_of hspl ho hoe hi ht
  rw [hspl, hat, Nat.add_comm 1, List.getElem?_cons_succ, h2, args_ps, h1, Int.toNat_natCast, List.getElem?_map, cnt_lt o k ho hk hn] at hlx
  simp only [Option.map_some, Option.some.injEq] at hlx
  rw [← hlx]
  have hf := right_f hi (k := k + 1) (by omega) (by omega)
  have hv := num_of (i.f (k + 1)).toNat (by omega)
  unfold arg
  by_cases h3 : k < 3
  · rw [if_pos h3, if_neg (by omega), List.drop_one, List.tail_cons, hv]; omega
  · rw [if_neg h3, if_pos (by omega), hv]; omega
theorem len_read {s : List UInt8} {l : List UInt8} {lt : List (List UInt8)} (hspl : spl s = l :: lt) {o : Nat} (ho : o < 12) (hoe : wd o = l) {i : IN} (hi : right i = true) (ht : text i = s) {k : Nat} (hk : k < 4)
    (hn : named o (k + 1) = true) : 1 + ((List.range (k + 1)).filter (named o)).length < (spl s).length := by
  obtain ⟨h1, h2⟩ := op_of hspl ho hoe hi ht
  rw [hspl, List.length_cons, h2, args_ps, h1, Int.toNat_natCast, List.length_map]
  have := (List.getElem?_eq_some_iff.1 (cnt_lt o k ho hk hn)).1
  omega
theorem cnt_succ (o k : Nat) (h : named o (k + 1) = true) : ((List.range (k + 1 + 1)).filter (named o)).length = ((List.range (k + 1)).filter (named o)).length + 1 := by
  rw [List.range_succ, List.filter_append, List.length_append]
  simp [h]
theorem cnt_same (o k : Nat) (h : named o (k + 1) = false) : ((List.range (k + 1 + 1)).filter (named o)).length = ((List.range (k + 1)).filter (named o)).length := by
  rw [List.range_succ, List.filter_append, List.length_append]
  simp [h]
end Go.Proofs.YtajlpicdkdeceaaDoor
