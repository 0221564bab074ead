import Derived.Test.YtfihnnijcaapkaaTh
namespace Go.Proofs.Ytfihnnijcaapkaa
open Go.RowKit
set_option linter.unusedSimpArgs false
set_option linter.unusedVariables false
attribute [local go_sem] ob_alloc ob_drew ob_drewN ob_setCell ob_setBlock objSet_cells obMap_map obClock_map isMapI_map keyI_mk findI_nil findI_cons lookRes_some lookRes_none lookRes_some' lookRes_none' setBlock_alloc mapPut
attribute [local go_sem ↓] eql29 neq29

/-! ### plain law -/
theorem mem_linesR {S : Nat → Option Ln} {l : Ln} : ∀ {k : Nat}, l ∈ linesR S k ↔ ∃ i, i < k ∧ S i = some l
  | 0 => by simp [linesR]
  | k + 1 => by
    rw [linesR_succ, List.mem_append, mem_linesR, Option.mem_toList]
    constructor
    · rintro (⟨i, h1, h2⟩ | h)
      · exact ⟨i, by omega, h2⟩
      · exact ⟨k, by omega, h⟩
    · rintro ⟨i, h1, h2⟩
      by_cases e : i = k
      · subst e; exact .inr h2
      · exact .inl ⟨i, by omega, h2⟩
theorem find_at {S : Nat → Option Ln} (hU : Uniq S) {l : Ln} {i : Nat} (hi : i < 8) (h : S i = some l) : findR S l.a l.p = some l := by
  unfold findR
  cases h1 : firstP (eqK l.a l.p) S 8 with
  | none =>
    have := firstP_none.1 h1 i hi
    rw [h] at this
    simp [eqK] at this
  | some j =>
    obtain ⟨hj, h2, _⟩ := firstP_some h1
    obtain ⟨l', h3, h4, h5⟩ := eqK_some h2
    obtain rfl : j = i := hU j i hj hi l' l h3 h h4 h5
    exact h
theorem find_mem {S : Nat → Option Ln} (hU : Uniq S) {l : Ln} (h : l ∈ linesR S 8) : findR S l.a l.p = some l := by
  obtain ⟨i, h1, h2⟩ := mem_linesR.1 h
  exact find_at hU h1 h2
theorem find_drop {S : Nat → Option Ln} (hU : Uniq S) {l : Ln} (h : l ∈ linesR S 8) (a : Int) : findR (dropS (eqA a) S) l.a l.p = if l.a == a then none else some l := by
  by_cases e : l.a = a
  · rw [if_pos (by simpa using e)]
    unfold findR
    rw [firstP_none.2]
    intro j hj
    unfold dropS
    cases hs : S j with
    | none => simp [eqA, eqK]
    | some l' =>
      by_cases e2 : l'.a = a
      · simp [eqA, e2, eqK]
      · have : ¬ l'.a = l.a := by rw [e]; exact e2
        simp [eqA, e2, eqK, this]
  · rw [if_neg (by simpa using e)]
    obtain ⟨i, h1, h2⟩ := mem_linesR.1 h
    exact find_at (hU.drop _) h1 (by unfold dropS; rw [h2]; simp [eqA, e])
theorem linesR_drop (a : Int) (S : Nat → Option Ln) : ∀ k, linesR (dropS (eqA a) S) k = (linesR S k).filter (fun l => !(l.a == a))
  | 0 => rfl
  | k + 1 => by
    rw [linesR_succ, linesR_succ, List.filter_append, linesR_drop a S k]
    congr 1
    unfold dropS
    cases hs : S k with
    | none => rfl
    | some l => by_cases e : l.a = a <;> simp [eqA, e]
theorem linesR_count (a : Int) (S : Nat → Option Ln) : ∀ k, (linesR S k).length = dropN (eqA a) S k + ((linesR S k).filter (fun l => !(l.a == a))).length
  | 0 => rfl
  | k + 1 => by
    rw [linesR_succ, List.filter_append, List.length_append, List.length_append, linesR_count a S k, dropN_succ]
    cases hs : S k with
    | none => simp [eqA]
    | some l => by_cases e : l.a = a <;> simp [eqA, e] <;> omega
theorem dropN_drop (a : Int) (S : Nat → Option Ln) : ∀ k, dropN (eqA a) (dropS (eqA a) S) k = 0
  | 0 => rfl
  | k + 1 => by
    rw [dropN_succ, dropN_drop a S k]
    unfold dropS
    cases hs : S k with
    | none => simp [eqA]
    | some l => by_cases e : l.a = a <;> simp [eqA, e]
def leftN (a : Int) (xs : List Ln) (k : Nat) : Nat := ((xs.take k).filter (fun l => !(l.a == a))).length
theorem leftN_succ {a : Int} {xs : List Ln} {k : Nat} {l : Ln} (h : xs[k]? = some l) : leftN a xs (k + 1) = leftN a xs k + if l.a == a then 0 else 1 := by
  unfold leftN
  rw [List.take_add_one, h, List.filter_append, List.length_append]
  by_cases e : l.a = a <;> simp [e]
theorem leftN_le (a : Int) (xs : List Ln) (k : Nat) : leftN a xs k ≤ xs.length := by
  unfold leftN
  refine Nat.le_trans (List.length_filter_le _ _) ?_
  rw [List.length_take]; omega
theorem leftN_all (a : Int) (xs : List Ln) : leftN a xs xs.length = (xs.filter (fun l => !(l.a == a))).length := by
  unfold leftN; rw [List.take_length]

/-- one buffer -/
structure B1 (W0 : World) (b : Nat) (w : World) (S : Nat → Option Ln) : Prop where
  bt : BufAt w b [] S
  un : Uniq S
  kp : Keep [] W0 w
  b0 : W0.heap.size ≤ b
section
variable {W0 : World} {b : Nat} {w : World} {S : Nat → Option Ln}
theorem B1.new (h : B1 W0 b w S) {w' : World} (hk : Keep [] w w') : B1 W0 b w' S := ⟨h.bt.keep hk (by simp) (by simp), h.un, h.kp.trans hk, h.b0⟩
theorem B1.drew (h : B1 W0 b w S) : B1 W0 b w.drew S := h.new (Keep.refl _ _).drew
theorem B1.put (h : B1 W0 b w S) (a p f : Int) (lw : Bool) (at' : Int) : Calls Try.prog 13 #[.pointer (some ⟨b, 0, none⟩), .agg #[.int .i64 a, .int .i64 p, .int .i64 f, .bool lw], .int .i64 at'] w fun e w' => e = .returned (.int .i64 (putR ⟨a, p, f, lw⟩ at')) ∧ B1 W0 b w' (putS S ⟨a, p, f, lw⟩ at') ∧ Keep [b] w w' := by
  refine (tPut w b [] S h.bt (by simp) ⟨a, p, f, lw⟩ at').mono ?_
  rintro e w' ⟨he, hB, hk⟩
  exact ⟨he, ⟨hB, h.un.put _ _, h.kp.andThen hk (by simp; exact h.b0), h.b0⟩, hk⟩
theorem B1.find (h : B1 W0 b w S) (a p : Int) : Calls Try.prog 14 #[.pointer (some ⟨b, 0, none⟩), .int .i64 a, .int .i64 p] w fun e w' => e = .returned (.tuple #[agL ((findR S a p).getD ln0), .bool (findR S a p).isSome]) ∧ B1 W0 b w' S ∧ Keep [] w w' :=
  (tFind w b [] S h.bt a p).mono fun _ _ ⟨g1, g2⟩ => ⟨g1, h.new g2, g2⟩
theorem B1.findY (h : B1 W0 b w S) {a p a' p' f' : Int} {l' : Bool} (hf : findR S a p = some ⟨a', p', f', l'⟩) : Calls Try.prog 14 #[.pointer (some ⟨b, 0, none⟩), .int .i64 a, .int .i64 p] w fun e w' => e = .returned (.tuple #[.agg #[.int .i64 a', .int .i64 p', .int .i64 f', .bool l'], .bool true]) ∧ B1 W0 b w' S ∧ Keep [] w w' :=
  (h.find a p).mono fun _ _ ⟨g1, g2⟩ => ⟨by rw [g1, hf]; rfl, g2⟩
theorem B1.findN (h : B1 W0 b w S) {a p : Int} (hf : findR S a p = none) : Calls Try.prog 14 #[.pointer (some ⟨b, 0, none⟩), .int .i64 a, .int .i64 p] w fun e w' => e = .returned (.tuple #[.agg #[.int .i64 0, .int .i64 0, .int .i64 0, .bool false], .bool false]) ∧ B1 W0 b w' S ∧ Keep [] w w' :=
  (h.find a p).mono fun _ _ ⟨g1, g2⟩ => ⟨by rw [g1, hf]; rfl, g2⟩
theorem B1.alloc (h : B1 W0 b w S) (o : Obj) : B1 W0 b (w.alloc o) S := h.new ((Keep.refl _ _).alloc _)
theorem B1.flush (h : B1 W0 b w S) (a : Int) : Calls Try.prog 16 #[.pointer (some ⟨b, 0, none⟩), .int .i64 a] w fun e w' => e = .returned (.int .i64 (dropN (eqA a) S 8 : Nat)) ∧ B1 W0 b w' (dropS (eqA a) S) ∧ Keep [b] w w' := by
  refine (tFlush w b [] S h.bt a).mono ?_
  rintro e w' ⟨he, hB, hk⟩
  exact ⟨he, ⟨hB, h.un.drop _, h.kp.andThen hk (by simp; exact h.b0), h.b0⟩, hk⟩
theorem B1.lines (h : B1 W0 b w S) : Calls Try.prog 15 #[.pointer (some ⟨b, 0, none⟩)] w fun e w' => ∃ va vc, e = .returned (.slice va (linesR S 8).length vc) ∧ RowE lnE 29 w' w.heap.size (.slice va (linesR S 8).length vc) (linesR S 8) ∧ B1 W0 b w' S ∧ Keep [] w w' := by
  refine (tLines w b [] S h.bt).mono ?_
  rintro e w' ⟨v, rfl, h1, h2⟩
  obtain ⟨va, vc, rfl⟩ := h1.slice
  exact ⟨va, vc, rfl, h1, h.new h2, h2⟩
theorem B1.lt (h : B1 W0 b w S) : b < w.heap.size := by obtain ⟨P, g⟩ := h.bt; exact ob_lt g.hb
end

end Go.Proofs.Ytfihnnijcaapkaa
