import Derived.Test.YtfihnnijcaapkaaTd
namespace Go.Proofs.Ytfihnnijcaapkaa
open Go.RowKit
set_option linter.unusedSimpArgs false
set_option linter.unusedVariables false
attribute [local go_sem] ob_alloc ob_drew ob_drewN ob_setCell ob_setBlock objSet_cells obMap_map obClock_map isMapI_map keyI_mk findI_nil findI_cons lookRes_some lookRes_none lookRes_some' lookRes_none' setBlock_alloc mapPut
set_option maxRecDepth 100000 in
set_option maxHeartbeats 1000000 in
theorem eql29 (a0 a1 a2 b0 b1 b2 : Int) (a3 b3 : Bool) (w : World) :
    (binOp .eql 29 (.agg #[.int .i64 a0, .int .i64 a1, .int .i64 a2, .bool a3]) (.agg #[.int .i64 b0, .int .i64 b1, .int .i64 b2, .bool b3])).run Try.prog w = .ok (.bool (decide (a0 = b0 ∧ a1 = b1 ∧ a2 = b2 ∧ a3 = b3))) w := by
  go_simp
  simp [ite_okb]
set_option maxRecDepth 100000 in
set_option maxHeartbeats 1000000 in
theorem neq29 (a0 a1 a2 b0 b1 b2 : Int) (a3 b3 : Bool) (w : World) :
    (binOp .neq 29 (.agg #[.int .i64 a0, .int .i64 a1, .int .i64 a2, .bool a3]) (.agg #[.int .i64 b0, .int .i64 b1, .int .i64 b2, .bool b3])).run Try.prog w = .ok (.bool (!decide (a0 = b0 ∧ a1 = b1 ∧ a2 = b2 ∧ a3 = b3))) w := by
  go_simp
  simp [ite_okn]
/-! ### the reference's buffer -/
def rbV (I : Nat → Bool) (G : Nat → Ln) : Nat → Value := fun j => if j < 32 then (if j % 4 = 0 then .int .i64 (G (j / 4)).a else if j % 4 = 1 then .int .i64 (G (j / 4)).p else if j % 4 = 2 then .int .i64 (G (j / 4)).f else .bool (G (j / 4)).w) else .bool (I (j - 32))
def RB (w : World) (r : Nat) (I : Nat → Bool) (G : Nat → Ln) : Prop := ob w r = some (.cells (blk (rbV I G) 40) 45 (0, 0))
def updI (I : Nat → Bool) (i : Nat) (b : Bool) : Nat → Bool := fun j => if j = i then b else I j
def updL (G : Nat → Ln) (i : Nat) (l : Ln) : Nat → Ln := fun j => if j = i then l else G j
def Rel (S : Nat → Option Ln) (I : Nat → Bool) (G : Nat → Ln) : Prop := ∀ i, i < 8 → (S i).isSome = I i ∧ ∀ l, S i = some l → G i = l
def RBufAt (w : World) (r : Nat) (S : Nat → Option Ln) : Prop := ∃ I G, RB w r I G ∧ Rel S I G
section
variable {w w' : World} {r : Nat} {I : Nat → Bool} {G : Nat → Ln} {S T : Nat → Option Ln}
theorem RBufAt.keep {L : List Nat} (h : RBufAt w r S) (hk : Keep L w w') (hr : r ∉ L) : RBufAt w' r S := by
  obtain ⟨I, G, h1, h2⟩ := h
  exact ⟨I, G, hk.kp h1 hr, h2⟩
theorem RBufAt.congr (h : RBufAt w r S) (e : ∀ i, i < 8 → S i = T i) : RBufAt w r T := by
  obtain ⟨I, G, h1, h2⟩ := h
  exact ⟨I, G, h1, fun i hi => by rw [← e i hi]; exact h2 i hi⟩
theorem RB.cI (h : RB w r I G) {i : Nat} (hi : i < 8) : w.cell? ⟨r, 32 + i, none⟩ = some (.bool (I i)) := by
  rw [blk_cell h (by omega)]; unfold rbV; rw [if_neg (by omega), show 32 + i - 32 = i by omega]
theorem RB.cA (h : RB w r I G) {i : Nat} (hi : i < 8) : w.cell? ⟨r, i * 4, none⟩ = some (.int .i64 (G i).a) := by
  rw [blk_cell h (by omega)]; unfold rbV; rw [if_pos (by omega), if_pos (by omega), show i * 4 / 4 = i by omega]
theorem RB.cP (h : RB w r I G) {i : Nat} (hi : i < 8) : w.cell? ⟨r, i * 4 + 1, none⟩ = some (.int .i64 (G i).p) := by
  rw [blk_cell h (by omega)]; unfold rbV; rw [if_pos (by omega), if_neg (by omega), if_pos (by omega), show (i * 4 + 1) / 4 = i by omega]
theorem RB.cF (h : RB w r I G) {i : Nat} (hi : i < 8) : w.cell? ⟨r, i * 4 + 2, none⟩ = some (.int .i64 (G i).f) := by
  rw [blk_cell h (by omega)]; unfold rbV; rw [if_pos (by omega), if_neg (by omega), if_neg (by omega), if_pos (by omega), show (i * 4 + 2) / 4 = i by omega]
theorem RB.cW (h : RB w r I G) {i : Nat} (hi : i < 8) : w.cell? ⟨r, i * 4 + 3, none⟩ = some (.bool (G i).w) := by
  rw [blk_cell h (by omega)]; unfold rbV; rw [if_pos (by omega), if_neg (by omega), if_neg (by omega), if_neg (by omega), show (i * 4 + 3) / 4 = i by omega]
theorem RB.setI (h : RB w r I G) (i : Nat) (b : Bool) : RB (w.setCell ⟨r, 32 + i, none⟩ (.bool b)) r (updI I i b) G := by
  unfold RB
  rw [blk_store h, blk_congr (g := rbV (updI I i b) G) (fun j hj => ?_)]
  unfold upd rbV updI
  by_cases e : j = 32 + i
  · rw [if_pos e, if_neg (by omega), if_pos (by omega)]
  · rw [if_neg e]
    by_cases e2 : j < 32
    · rw [if_pos e2, if_pos e2]
    · rw [if_neg e2, if_neg e2, if_neg (by omega)]
theorem RB.setL (h : RB w r I G) (i : Nat) (hi : i < 8) (l : Ln) : RB (w.setCells r (i * 4) [.int .i64 l.a, .int .i64 l.p, .int .i64 l.f, .bool l.w]) r I (updL G i l) := by
  unfold RB
  rw [blk_storeR _ _ _ _ h, blk_congr (g := rbV I (updL G i l)) (fun j hj => ?_)]
  unfold updR rbV updL
  simp only [List.length_cons, List.length_nil]
  by_cases e : i * 4 ≤ j ∧ j < i * 4 + (0 + 1 + 1 + 1 + 1)
  · rw [if_pos e, if_pos (by omega), if_pos (show j / 4 = i by omega)]
    have hc : j = i * 4 ∨ j = i * 4 + 1 ∨ j = i * 4 + 2 ∨ j = i * 4 + 3 := by omega
    rcases hc with h1 | h1 | h1 | h1
    · rw [if_pos (by omega), show j - i * 4 = 0 by omega]; rfl
    · rw [if_neg (by omega), if_pos (by omega), show j - i * 4 = 1 by omega]; rfl
    · rw [if_neg (by omega), if_neg (by omega), if_pos (by omega), show j - i * 4 = 2 by omega]; rfl
    · rw [if_neg (by omega), if_neg (by omega), if_neg (by omega), show j - i * 4 = 3 by omega]; rfl
  · rw [if_neg e]
    by_cases e2 : j < 32
    · have e3 : ¬ j / 4 = i := by omega
      rw [if_pos e2, if_pos e2]; simp only [if_neg e3]
    · rw [if_neg e2, if_neg e2]
theorem Rel.put (h : Rel S I G) (i : Nat) (l : Ln) : Rel (upS S i (some l)) (updI I i true) (updL G i l) := by
  intro j hj
  unfold upS updI updL
  by_cases e : j = i
  · simp [e]
  · simp only [if_neg e]; exact h j hj
theorem Rel.clear (h : Rel S I G) (i : Nat) : Rel (upS S i none) (updI I i false) G := by
  intro j hj
  unfold upS updI
  by_cases e : j = i
  · simp [e]
  · simp only [if_neg e]; exact h j hj
end
set_option maxRecDepth 100000 in
set_option maxHeartbeats 400000 in
theorem rAt (w : World) (r : Nat) (S : Nat → Option Ln) (hR : RBufAt w r S) (a p : Int) :
    Calls Try.prog 44 #[.pointer (some ⟨r, 0, none⟩), .int .i64 a, .int .i64 p] w fun e w' => e = .returned (.int .i64 (goI (firstP (eqK a p) S 8))) ∧ w = w' := by
  obtain ⟨I, G, hB, hRel⟩ := hR
  have HB := Lib.hid hB
  have HR := Lib.hid hRel
  clear hB hRel
  go_enter Try.func44, Try.ntmps44
  go_wp2_with fail
  go_loopg [7] 8 (fun gn i wr => ∃ k : Nat, i = .int .i64 k ∧ k ≤ 8 ∧ gn = 8 - k ∧ Hid (∀ j, j < k → eqK a p (S j) = false) ∧ w = wr)
  case atStart => exact ⟨0, rfl, by omega, by omega, Lib.hid (by simp), rfl⟩
  case round =>
    obtain ⟨k, rfl, hk8, rfl, hno, rfl⟩ := hrel
    by_cases hk : k < 8
    · have cI := HB.out.cI hk
      have nx : eqK a p (S k) = false → Hid (∀ j, j < k + 1 → eqK a p (S j) = false) := fun h => Lib.hid (fun j hj => by
        by_cases e : j = k
        · subst e; exact h
        · exact hno.out j (by omega))
      rw [← (HR.out k hk).1] at cI
      cases hs : S k with
      | none =>
        rw [hs] at cI
        have HN := nx (by rw [hs]; rfl)
        simp only [Option.isSome_none] at cI
        clear hs nx
        go_wp2
        go_roundg (8 - (k + 1))
        case measure => omega
        case rel => exact ⟨k + 1, by go_num, by omega, rfl, HN, rfl⟩
      | some l =>
        rw [hs] at cI
        simp only [Option.isSome_some] at cI
        have cA := HB.out.cA hk
        have cP := HB.out.cP hk
        rw [(HR.out k hk).2 l hs] at cA cP
        by_cases h1 : l.a = a
        · by_cases h2 : l.p = p
          · have HE := Lib.hid (firstP_eq (k := 8) hk (show eqK a p (S k) = true by rw [hs]; simp [eqK, h1, h2]) hno.out)
            rw [h1] at cA
            rw [h2] at cP
            clear hs nx h1 h2
            go_wp2
            go_ret
            exact ⟨show Ending.returned (.int .i64 (k : Int)) = _ by rw [HE.out]; rfl, rfl⟩
          · have HN := nx (by rw [hs]; simp [eqK, h2])
            have h2' : (l.p == p) = false := by simpa using h2
            rw [h1] at cA
            clear hs nx h1 h2
            go_wp2
            go_roundg (8 - (k + 1))
            case measure => omega
            case rel => exact ⟨k + 1, by go_num, by omega, rfl, HN, rfl⟩
        · have HN := nx (by rw [hs]; simp [eqK, h1])
          have h1' : (l.a == a) = false := by simpa using h1
          clear hs nx h1
          go_wp2
          go_roundg (8 - (k + 1))
          case measure => omega
          case rel => exact ⟨k + 1, by go_num, by omega, rfl, HN, rfl⟩
    · obtain rfl : k = 8 := by omega
      have HE := Lib.hid (firstP_none.2 hno.out)
      go_wp2
      go_ret
      exact ⟨show Ending.returned (.int .i64 (-1)) = _ by rw [HE.out]; rfl, rfl⟩
set_option maxRecDepth 100000 in
set_option maxHeartbeats 800000 in
theorem rFind (w : World) (r : Nat) (S : Nat → Option Ln) (hR : RBufAt w r S) (a p : Int) :
    Calls Try.prog 22 #[.pointer (some ⟨r, 0, none⟩), .int .i64 a, .int .i64 p] w fun e w' => e = .returned (.tuple #[agL ((findR S a p).getD ln0), .bool (findR S a p).isSome]) ∧ Keep [] w w' := by
  have k0 : Keep [] w (w.alloc (.cells #[.int .i64 0, .int .i64 0, .int .i64 0, .bool false] 29)) := (Keep.refl _ _).alloc _
  have e0 := al_new w (.cells #[.int .i64 0, .int .i64 0, .int .i64 0, .bool false] 29) rfl
  have hB0 := hR.keep k0 (by simp)
  have HH := Lib.hid (And.intro k0 (And.intro e0 hB0))
  clear k0 e0 hB0 hR
  unfold agL
  go_enter Try.func22, Try.ntmps22
  go_wp2_with fail
  obtain ⟨k0, e0, hB0⟩ := HH.out
  generalize w.alloc (.cells #[.int .i64 0, .int .i64 0, .int .i64 0, .bool false] 29) = w1 at *
  refine (rAt w1 r S hB0 a p).mono ?_
  rintro _ w2 ⟨rfl, rfl⟩
  have c1 := cell_of_ob e0
  have f1 := free_of_ob e0
  have l1 := ob_lt e0
  clear HH
  cases hf : firstP (eqK a p) S 8 with
  | none =>
    have HF : Hid (findR S a p = none) := Lib.hid (by unfold findR; rw [hf])
    simp only [goI]
    clear hB0 hf
    go_wp2
    refine bodyPost_ret (ret_row_tmp (P := Try.prog) Try.results22 (cs := #[.int .i64 0, .int .i64 0, .int .i64 0, .bool false]) (t := 29) (fr := (0, 0)) (g := w.heap.size) (by simp [ob_alloc, ob_drew, ob_setCell, ob_setBlock, objSet_cells, Nat.add_assoc]; rw [e0]; simp [objSet_cells]) rfl Try.underlying29 rfl (by kernel_rfl)) rfl ?_
    rw [HF.out]
    exact ⟨rfl, (((k0.setCell (.inr (Nat.le_refl _)) _ _).setCell (.inr (Nat.le_refl _)) _ _).setCell (.inr (Nat.le_refl _)) _ _).setCell (.inr (Nat.le_refl _)) _ _⟩
  | some i =>
    obtain ⟨hi, hp, _⟩ := firstP_some hf
    obtain ⟨l, hl, hla, hlp⟩ := eqK_some hp
    clear hla hlp
    obtain ⟨I, G, hRB, hRel⟩ := hB0
    have cA := hRB.cA hi
    have cP := hRB.cP hi
    have cF := hRB.cF hi
    have cW := hRB.cW hi
    rw [(hRel i hi).2 l hl] at cA cP cF cW
    have HF : Hid (findR S a p = some l) := Lib.hid (by unfold findR; rw [hf]; exact hl)
    simp only [goI]
    clear hRB hRel hf hp hl
    go_wp2
    refine bodyPost_ret (ret_row_tmp (P := Try.prog) Try.results22 (cs := #[.int .i64 l.a, .int .i64 l.p, .int .i64 l.f, .bool l.w]) (t := 29) (fr := (0, 0)) (g := w.heap.size) (by simp [ob_alloc, ob_drew, ob_setCell, ob_setBlock, objSet_cells, Nat.add_assoc]; rw [e0]; simp [objSet_cells]) rfl Try.underlying29 rfl (by kernel_rfl)) rfl ?_
    rw [HF.out]
    exact ⟨rfl, (((k0.setCell (.inr (Nat.le_refl _)) _ _).setCell (.inr (Nat.le_refl _)) _ _).setCell (.inr (Nat.le_refl _)) _ _).setCell (.inr (Nat.le_refl _)) _ _⟩
theorem drop_one {S : Nat → Option Ln} (hU : Uniq S) (a p : Int) : (∀ i, firstP (eqK a p) S 8 = some i → ∀ j, j < 8 → upS S i none j = dropS (eqK a p) S j) ∧ (firstP (eqK a p) S 8 = none → ∀ j, j < 8 → S j = dropS (eqK a p) S j) ∧ ((firstP (eqK a p) S 8).isSome = decide (0 < dropN (eqK a p) S 8)) := by
  have hn : ∀ k, dropN (eqK a p) S k = 0 ↔ ∀ j, j < k → eqK a p (S j) = false := by
    intro k
    induction k with
    | zero => simp [dropN]
    | succ k ih =>
      unfold dropN
      constructor
      · intro h j hj
        by_cases e : j = k
        · subst e
          cases hq : eqK a p (S j) with
          | false => rfl
          | true => rw [hq] at h; simp at h
        · exact ih.1 (by omega) j (by omega)
      · intro h
        rw [ih.2 (fun j hj => h j (by omega)), h k (by omega)]; rfl
  refine ⟨fun i hf j hj => ?_, fun hf j hj => ?_, ?_⟩
  · obtain ⟨hi, hp, _⟩ := firstP_some hf
    obtain ⟨l, hl, ha, hpp⟩ := eqK_some hp
    unfold upS dropS
    by_cases e : j = i
    · subst e; rw [if_pos rfl, hp]; rfl
    · rw [if_neg e]
      cases hq : eqK a p (S j) with
      | false => rfl
      | true =>
        obtain ⟨l2, hl2, ha2, hp2⟩ := eqK_some hq
        exact absurd (hU j i hj hi l2 l hl2 hl (by rw [ha2, ha]) (by rw [hp2, hpp])) e
  · unfold dropS; rw [firstP_none.1 hf j hj]; rfl
  · cases hf : firstP (eqK a p) S 8 with
    | none => have := (hn 8).2 (firstP_none.1 hf); simp [this]
    | some i =>
      obtain ⟨hi, hp, _⟩ := firstP_some hf
      have : dropN (eqK a p) S 8 ≠ 0 := fun h => by rw [(hn 8).1 h i hi] at hp; cases hp
      simp; omega
set_option maxRecDepth 100000 in
set_option maxHeartbeats 800000 in
theorem rDrop (w : World) (r : Nat) (S : Nat → Option Ln) (hR : RBufAt w r S) (hU : Uniq S) (a p : Int) :
    Calls Try.prog 19 #[.pointer (some ⟨r, 0, none⟩), .int .i64 a, .int .i64 p] w fun e w' => e = .returned (.bool (decide (0 < dropN (eqK a p) S 8))) ∧ RBufAt w' r (dropS (eqK a p) S) ∧ Keep [r] w w' := by
  obtain ⟨d1, d2, d3⟩ := drop_one hU a p
  rw [← d3]
  have hA := rAt w r S hR a p
  have HR := Lib.hid hR
  clear hR d3
  go_enter Try.func19, Try.ntmps19
  go_wp2_with fail
  refine hA.mono ?_
  rintro _ w2 ⟨rfl, rfl⟩
  clear hA
  cases hf : firstP (eqK a p) S 8 with
  | none =>
    have H2 := Lib.hid (And.intro hf (HR.out.congr (d2 hf)))
    simp only [goI]
    clear d1 d2 hf
    go_wp2
    go_ret
    exact ⟨by rw [H2.out.1]; rfl, H2.out.2, Keep.refl _ _⟩
  | some i =>
    have hi := (firstP_some hf).1
    obtain ⟨I, G, hRB, hRel⟩ := HR.out
    have cI := hRB.cI hi
    have fI := free_of_ob hRB
    have H2 : Hid (firstP (eqK a p) S 8 = some i ∧ RBufAt (w.setCell ⟨r, 32 + i, none⟩ (.bool false)) r (dropS (eqK a p) S) ∧ Keep [r] w (w.setCell ⟨r, 32 + i, none⟩ (.bool false))) :=
      Lib.hid ⟨hf, RBufAt.congr ⟨_, _, hRB.setI i false, hRel.clear i⟩ (d1 i hf), (Keep.refl _ _).setCell (.inl (by simp)) _ _⟩
    simp only [goI]
    clear d1 d2 hf hRB hRel
    go_wp2
    go_ret
    exact ⟨by rw [H2.out.1]; rfl, H2.out.2.1, H2.out.2.2⟩
set_option maxRecDepth 100000 in
set_option maxHeartbeats 800000 in
theorem rFlush (w : World) (r : Nat) (S : Nat → Option Ln) (hR : RBufAt w r S) (a : Int) :
    Calls Try.prog 20 #[.pointer (some ⟨r, 0, none⟩), .int .i64 a] w fun e w' => e = .returned (.int .i64 (dropN (eqA a) S 8 : Nat)) ∧ RBufAt w' r (dropS (eqA a) S) ∧ Keep [r] w w' := by
  have h0 : RBufAt w r (dropTo (eqA a) S 0) := hR.congr (fun i _ => by unfold dropTo; rw [if_neg (by omega)])
  clear hR
  go_enter Try.func20, Try.ntmps20
  go_wp2_with fail
  go_loopg [5, 6] 8 (fun gn c i wr => ∃ k : Nat, i = .int .i64 k ∧ k ≤ 8 ∧ gn = 8 - k ∧ c = .int .i64 (dropN (eqA a) S k : Nat) ∧ RBufAt wr r (dropTo (eqA a) S k) ∧ Keep [r] w wr)
  case atStart => exact ⟨0, rfl, by omega, by omega, rfl, h0, Keep.refl _ _⟩
  case round =>
    clear h0
    obtain ⟨k, rfl, hk8, rfl, rfl, hR, hkp⟩ := hrel
    have hdl := dropN_le (eqA a) S k
    by_cases hk : k < 8
    · obtain ⟨I, G, hRB, hRel⟩ := hR
      have cI := hRB.cI hk
      have hsk : dropTo (eqA a) S k k = S k := by unfold dropTo; rw [if_neg (by omega)]
      rw [← (hRel k hk).1, hsk] at cI
      cases hs : S k with
      | none =>
        have hp : eqA a (S k) = false := by rw [hs]; rfl
        have HE : Hid (dropN (eqA a) S (k + 1) = dropN (eqA a) S k) := Lib.hid (by rw [dropN_succ, hp]; rfl)
        have H2 : Hid (RBufAt wr r (dropTo (eqA a) S (k + 1)) ∧ Keep [r] w wr) := Lib.hid ⟨dropTo_no (eqA a) S k hp ▸ ⟨I, G, hRB, hRel⟩, hkp⟩
        rw [hs] at cI
        simp only [Option.isSome_none] at cI
        clear hRB hRel hkp hp hs hsk
        generalize dropN (eqA a) S k = c at *
        go_wp2
        go_roundg (8 - (k + 1))
        case measure => omega
        case rel => exact ⟨k + 1, by go_num, by omega, rfl, by rw [HE.out], H2.out.1, H2.out.2⟩
      | some l =>
        rw [hs] at cI
        simp only [Option.isSome_some] at cI
        have cA := hRB.cA hk
        rw [(hRel k hk).2 l (by rw [hsk]; exact hs)] at cA
        by_cases h1 : l.a = a
        · have hp : eqA a (S k) = true := by rw [hs]; simp [eqA, h1]
          have HE : Hid (dropN (eqA a) S (k + 1) = dropN (eqA a) S k + 1) := Lib.hid (by rw [dropN_succ, hp]; rfl)
          have fI := free_of_ob hRB
          have H2 : Hid (RBufAt (wr.setCell ⟨r, 32 + k, none⟩ (.bool false)) r (dropTo (eqA a) S (k + 1)) ∧ Keep [r] w (wr.setCell ⟨r, 32 + k, none⟩ (.bool false))) :=
            Lib.hid ⟨dropTo_yes (eqA a) S k hp ▸ ⟨_, _, hRB.setI k false, hRel.clear k⟩, hkp.setCell (.inl (by simp)) _ _⟩
          rw [h1] at cA
          clear hRB hRel hkp hp hs hsk h1
          generalize dropN (eqA a) S k = c at *
          go_wp2
          go_roundg (8 - (k + 1))
          case measure => omega
          case rel => exact ⟨k + 1, by go_num, by omega, rfl, by rw [HE.out]; go_num, H2.out.1, H2.out.2⟩
        · have hp : eqA a (S k) = false := by rw [hs]; simp [eqA, h1]
          have HE : Hid (dropN (eqA a) S (k + 1) = dropN (eqA a) S k) := Lib.hid (by rw [dropN_succ, hp]; rfl)
          have h1' : (l.a == a) = false := by simpa using h1
          have H2 : Hid (RBufAt wr r (dropTo (eqA a) S (k + 1)) ∧ Keep [r] w wr) := Lib.hid ⟨dropTo_no (eqA a) S k hp ▸ ⟨I, G, hRB, hRel⟩, hkp⟩
          clear hRB hRel hkp hp hs hsk h1
          generalize dropN (eqA a) S k = c at *
          go_wp2
          go_roundg (8 - (k + 1))
          case measure => omega
          case rel => exact ⟨k + 1, by go_num, by omega, rfl, by rw [HE.out], H2.out.1, H2.out.2⟩
    · obtain rfl : k = 8 := by omega
      have H2 : Hid (RBufAt wr r (dropS (eqA a) S)) := Lib.hid (hR.congr (fun i hi => by unfold dropTo dropS; simp [hi]))
      clear hR
      go_wp2
      go_ret
      exact ⟨rfl, H2.out, hkp⟩
end Go.Proofs.Ytfihnnijcaapkaa
